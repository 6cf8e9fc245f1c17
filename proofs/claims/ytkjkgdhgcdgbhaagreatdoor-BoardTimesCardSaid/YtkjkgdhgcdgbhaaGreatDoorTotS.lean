/- What parts of the board leave as it was. -/
import Derived.Test.YtkjkgdhgcdgbhaaGreatDoorTotA
namespace Go.Proofs.YtkjkgdhgcdgbhaaGreatDoor
open Kot Go
set_option maxRecDepth 100000
structure GR (a b : Ac) : Prop where
  Av : a.Av = b.Av
  Cc : a.Cc = b.Cc
  EY : a.EY = b.EY
  Cn : a.Cn = b.Cn
theorem GR.refl (a : Ac) : GR a a := ⟨rfl, rfl, rfl, rfl⟩
theorem GR.trans {a b c : Ac} (h : GR a b) (g : GR b c) : GR a c := ⟨h.Av.trans g.Av, h.Cc.trans g.Cc, h.EY.trans g.EY, h.Cn.trans g.Cn⟩
structure O7 (a b : A7) : Prop where
  Dt : a.Dt = b.Dt
theorem O7.refl (a : A7) : O7 a a := ⟨rfl⟩
theorem O7.trans {a b c : A7} (h : O7 a b) (g : O7 b c) : O7 a c := ⟨h.Dt.trans g.Dt⟩
theorem PE {a0 : Ac} {a1 : Int} : Dz (fun r => GR r.2 a0) (F9.f a0 a1) := by
 unfold F9.f
 exact Dz.IZ (fun r760 =>
 Dz.bif (
  Dz.IZ (fun r764 =>
  Dz.bif (
   Dz.none) (
   Dz.mk ⟨rfl, rfl, rfl, rfl⟩))) (
  Dz.mk ⟨rfl, rfl, rfl, rfl⟩))
theorem PX {a0 : Ac} {a1 : Int} : Dz (fun r => GR r.2 a0) (FT.f a0 a1) := by
 unfold FT.f
 exact Dz.bif (
  Dz.IZ (fun r718 =>
  Dz.bnd (fun x722 =>
   Dz.mk ⟨rfl, rfl, rfl, rfl⟩))) (
  Dz.bif (
   Dz.bif (
    Dz.none) (
    Dz.bif (
     Dz.mk ⟨rfl, rfl, rfl, rfl⟩) (
     Dz.mk ⟨rfl, rfl, rfl, rfl⟩))) (
   Dz.bif (
    Dz.bind (PE) (fun r773 h1 =>
    Dz.IZ (fun r791 =>
    Dz.mk ⟨h1.Av, h1.Cc, h1.EY, h1.Cn⟩))) (
    Dz.mk (GR.refl _))))
theorem H7 {a0 : A7} {a0c2 : Ac} {a0c3 : Al} {a0c4 : Ai} {a0c4c1 : Am} {a0c4c2 : An} {a0c5 : AL} {a0c6 : AL} {a1 : Int} {s974 : Bool} : Dz (fun r => O7 r.2.1 a0 ∧ GR r.2.2.1 a0c2) (Aw.j2 a0 a0c2 a0c3 a0c4 a0c4c1 a0c4c2 a0c5 a0c6 a1 s974) := by
 unfold Aw.j2
 exact Dz.bif (
  Dz.bif (
   Dz.IZ (fun r983 =>
   Dz.mk ⟨⟨rfl⟩, (GR.refl _)⟩)) (
   Dz.bif (
    Dz.IZ (fun r1002 =>
    Dz.mk ⟨⟨rfl⟩, (GR.refl _)⟩)) (
    Dz.none))) (
  Dz.bif (
   Dz.IZ (fun r1203 =>
   Dz.bif (
    Dz.mk ⟨⟨rfl⟩, (GR.refl _)⟩) (
    Dz.mk ⟨(O7.refl _), (GR.refl _)⟩))) (
   Dz.mk ⟨(O7.refl _), (GR.refl _)⟩))
theorem H8 {a0 : A7} {a0c1 : Ag} {a0c2 : Ac} {a0c3 : Al} {a0c3c1 : Aa} {a0c3c2 : Aa} {a0c3c3 : Aa} {a0c3c4 : Aa} {a0c4 : Ai} {a0c4c1 : Am} {a0c4c2 : An} {a0c5 : AL} {a0c6 : AL} {a1 : Int} {s674 : Bool} : Dz (fun r => O7 r.2.1 a0 ∧ GR r.2.2.1 a0c2) (Aw.j1 a0 a0c1 a0c2 a0c3 a0c3c1 a0c3c2 a0c3c3 a0c3c4 a0c4 a0c4c1 a0c4c2 a0c5 a0c6 a1 s674) := by
 unfold Aw.j1
 exact Dz.bif (
  Dz.IZ (fun r701 =>
  Dz.mk ⟨⟨rfl⟩, (GR.refl _)⟩)) (
  Dz.bif (
   Dz.bind (PX) (fun r803 h1 =>
   Dz.mk ⟨⟨rfl⟩, h1⟩)) (
   Dz.bif (
    Dz.IZ (fun r940 =>
    Dz.mk ⟨⟨rfl⟩, (GR.refl _)⟩)) (
    Dz.bif (
     (H7)) (
     (H7)))))
theorem F8 {a0 : A7} {a0c1 : Ag} {a0c2 : Ac} {a0c3 : Al} {a0c3c1 : Aa} {a0c3c2 : Aa} {a0c3c3 : Aa} {a0c3c4 : Aa} {a0c4 : Ai} {a0c4c1 : Am} {a0c4c2 : An} {a0c5 : AL} {a0c6 : AL} {a1 : Int} : Dz (fun r => O7 r.2.1 a0 ∧ GR r.2.2.1 a0c2) (Aw.f a0 a0c1 a0c2 a0c3 a0c3c1 a0c3c2 a0c3c3 a0c3c4 a0c4 a0c4c1 a0c4c2 a0c5 a0c6 a1) := by
 unfold Aw.f
 exact Dz.bif (
  (H8)) (
  (H8))
theorem EO {a0 : A7} {a0c1 : Ag} {a0c2 : Ac} {a0c3 : Al} {a0c3c1 : Aa} {a0c3c2 : Aa} {a0c3c3 : Aa} {a0c3c4 : Aa} {a0c4 : Ai} {a0c4c1 : Am} {a0c4c2 : An} {a0c5 : AL} {a0c6 : AL} {r649 : Int × Bool} {s653 : Int} : Dz (fun r => O7 r.2.1 a0 ∧ GR r.2.2.1 a0c2) (Bc.j1 a0 a0c1 a0c2 a0c3 a0c3c1 a0c3c2 a0c3c3 a0c3c4 a0c4 a0c4c1 a0c4c2 a0c5 a0c6 r649 s653) := by
 unfold Bc.j1
 exact Dz.bif (
  Dz.mk ⟨⟨rfl⟩, (GR.refl _)⟩) (
  Dz.bif (
   Dz.bind (F8) (fun r1209 h1 =>
   Dz.IZ (fun r1254 =>
   Dz.mk ⟨(h1.1.trans ⟨rfl⟩), h1.2⟩))) (
   Dz.mk ⟨⟨rfl⟩, (GR.refl _)⟩))
theorem Lb {a0 : A7} {a0c1 : Ag} {a0c2 : Ac} {a0c3 : Al} {a0c3c1 : Aa} {a0c3c2 : Aa} {a0c3c3 : Aa} {a0c3c4 : Aa} {a0c4 : Ai} {a0c4c1 : Am} {a0c4c2 : An} {a0c5 : AL} {a0c6 : AL} : Dz (fun r => O7 r.2.1 a0 ∧ GR r.2.2.1 a0c2) (Bc.f a0 a0c1 a0c2 a0c3 a0c3c1 a0c3c2 a0c3c3 a0c3c4 a0c4 a0c4c1 a0c4c2 a0c5 a0c6) := by
 unfold Bc.f
 exact Dz.IZ (fun r649 =>
 Dz.bif (
  Dz.bif (
   (EO)) (
   (EO))) (
  (EO)))
theorem Hz {a0 : A7} {a0c1 : Ag} {a0c2 : Ac} {a0c3 : Al} {a0c3c1 : Aa} {a0c3c2 : Aa} {a0c3c3 : Aa} {a0c3c4 : Aa} {a0c4 : Ai} {a0c4c1 : Am} {a0c4c2 : An} {a0c5 : AL} {a0c6 : AL} {a1 : Int} {a2 : Int} : Dz (fun r => O7 r a0) (Ci.f a0 a0c1 a0c2 a0c3 a0c3c1 a0c3c2 a0c3c3 a0c3c4 a0c4 a0c4c1 a0c4c2 a0c5 a0c6 a1 a2) := by
 unfold Ci.f
 exact Dz.bif (
  Dz.bif (
   Dz.none) (
   Dz.mk ⟨rfl⟩)) (
  Dz.bif (
   Dz.bif (
    Dz.bif (
     Dz.none) (
     Dz.mk ⟨rfl⟩)) (
    Dz.mk (O7.refl _))) (
   Dz.mk (O7.refl _)))
theorem PN {a0 : Ac} {a1 : Int} {a2 : Int} : Dz (fun r => GR r a0) (FB.f a0 a1 a2) := by
 unfold FB.f
 exact Dz.bif (
  Dz.bif (
   Dz.bif (
    Dz.none) (
    Dz.mk ⟨rfl, rfl, rfl, rfl⟩)) (
   Dz.bif (
    Dz.IZ (fun r1426 =>
    Dz.bif (
     Dz.none) (
     Dz.mk ⟨rfl, rfl, rfl, rfl⟩))) (
    Dz.IZ (fun r1439 =>
    Dz.bif (
     Dz.none) (
     Dz.mk ⟨rfl, rfl, rfl, rfl⟩))))) (
  Dz.bif (
   Dz.bif (
    Dz.none) (
    Dz.mk ⟨rfl, rfl, rfl, rfl⟩)) (
   Dz.bif (
    Dz.IZ (fun r1453 =>
    Dz.bif (
     Dz.none) (
     Dz.mk ⟨rfl, rfl, rfl, rfl⟩))) (
    Dz.IZ (fun r1466 =>
    Dz.bif (
     Dz.none) (
     Dz.mk ⟨rfl, rfl, rfl, rfl⟩)))))
theorem Qa {a0 : Ac} {a1 : Int} {a2 : Int} : Dz (fun r => GR r a0) (FU.f a0 a1 a2) := by
 unfold FU.f
 exact Dz.bif (
  Dz.IZ (fun r1375 =>
  Dz.mk ⟨rfl, rfl, rfl, rfl⟩)) (
  Dz.bif (
   Dz.mk ⟨rfl, rfl, rfl, rfl⟩) (
   Dz.bif (
    Dz.mk ⟨rfl, rfl, rfl, rfl⟩) (
    Dz.bif (
     Dz.bif (
      Dz.none) (
      Dz.mk ⟨rfl, rfl, rfl, rfl⟩)) (
     Dz.bif (
      Dz.IZ (fun r1400 =>
      Dz.mk ⟨rfl, rfl, rfl, rfl⟩)) (
      Dz.bif (
       Dz.IZ (fun r1420 =>
       Dz.mk ⟨rfl, rfl, rfl, rfl⟩)) (
       Dz.bif (
        Dz.bind (PN) (fun r1479 h1 =>
        Dz.IZ (fun r1485 =>
        Dz.mk ⟨(h1.trans ⟨rfl, rfl, rfl, rfl⟩).Av, (h1.trans ⟨rfl, rfl, rfl, rfl⟩).Cc, (h1.trans ⟨rfl, rfl, rfl, rfl⟩).EY, (h1.trans ⟨rfl, rfl, rfl, rfl⟩).Cn⟩))) (
        Dz.mk ⟨rfl, rfl, rfl, rfl⟩)))))))
theorem Fx {a0 : A7} {a0c2 : Ac} {a0c3 : Al} {a0c3c1 : Aa} {a0c3c2 : Aa} {a0c3c3 : Aa} {a0c3c4 : Aa} {a0c4 : Ai} {a0c4c1 : Am} {a0c4c2 : An} {a0c5 : AL} {a0c6 : AL} {a1 : Int} {a2 : Int} {s1503 : Bool} : Dz (fun r => O7 r.1 a0 ∧ GR r.2.1 a0c2) (Ay.j2 a0 a0c2 a0c3 a0c3c1 a0c3c2 a0c3c3 a0c3c4 a0c4 a0c4c1 a0c4c2 a0c5 a0c6 a1 a2 s1503) := by
 unfold Ay.j2
 exact Dz.bif (
  Dz.IZ (fun r1794 =>
  Dz.mk ⟨⟨rfl⟩, (GR.refl _)⟩)) (
  Dz.bif (
   Dz.mk ⟨⟨rfl⟩, (GR.refl _)⟩) (
   Dz.bif (
    Dz.IZ (fun r1806 =>
    Dz.IZ (fun r1810 =>
    Dz.mk ⟨⟨rfl⟩, (GR.refl _)⟩))) (
    Dz.bif (
     Dz.IZ (fun r1946 =>
     Dz.mk ⟨⟨rfl⟩, (GR.refl _)⟩)) (
     Dz.mk ⟨⟨rfl⟩, (GR.refl _)⟩))))
theorem H9 {a0 : A7} {a0c1 : Ag} {a0c2 : Ac} {a0c3 : Al} {a0c3c1 : Aa} {a0c3c2 : Aa} {a0c3c3 : Aa} {a0c3c4 : Aa} {a0c4 : Ai} {a0c4c1 : Am} {a0c4c2 : An} {a0c5 : AL} {a0c6 : AL} {a1 : Int} {a2 : Int} {s1333 : Bool} : Dz (fun r => O7 r.1 a0 ∧ GR r.2.1 a0c2) (Ay.j1 a0 a0c1 a0c2 a0c3 a0c3c1 a0c3c2 a0c3c3 a0c3c4 a0c4 a0c4c1 a0c4c2 a0c5 a0c6 a1 a2 s1333) := by
 unfold Ay.j1
 exact Dz.bif (
  Dz.bind (Hz) (fun r1357 h1 =>
  Dz.mk ⟨(h1.trans ⟨rfl⟩), (GR.refl _)⟩)) (
  Dz.bif (
   Dz.bind (Qa) (fun r1497 h2 =>
   Dz.mk ⟨⟨rfl⟩, h2⟩)) (
   Dz.bif (
    (Fx)) (
    Dz.bif (
     (Fx)) (
     (Fx)))))
theorem Ic {a0 : A7} {a0c1 : Ag} {a0c2 : Ac} {a0c3 : Al} {a0c3c1 : Aa} {a0c3c2 : Aa} {a0c3c3 : Aa} {a0c3c4 : Aa} {a0c4 : Ai} {a0c4c1 : Am} {a0c4c2 : An} {a0c5 : AL} {a0c6 : AL} {a1 : Int} {a2 : Int} : Dz (fun r => O7 r.1 a0 ∧ GR r.2.1 a0c2) (Ay.f a0 a0c1 a0c2 a0c3 a0c3c1 a0c3c2 a0c3c3 a0c3c4 a0c4 a0c4c1 a0c4c2 a0c5 a0c6 a1 a2) := by
 unfold Ay.f
 exact Dz.bif (
  (H9)) (
  (H9))
theorem Ld {a0 : A7} {a0c1 : Ag} {a0c2 : Ac} {a0c3 : Al} {a0c3c1 : Aa} {a0c3c2 : Aa} {a0c3c3 : Aa} {a0c3c4 : Aa} {a0c4 : Ai} {a0c4c1 : Am} {a0c4c2 : An} {a0c5 : AL} {a0c6 : AL} : Dz (fun r => O7 r.2.1 a0 ∧ GR r.2.2.1 a0c2) (C7.f a0 a0c1 a0c2 a0c3 a0c3c1 a0c3c2 a0c3c3 a0c3c4 a0c4 a0c4c1 a0c4c2 a0c5 a0c6) := by
 unfold C7.f
 exact Dz.bif (
  Dz.mk ⟨⟨rfl⟩, (GR.refl _)⟩) (
  Dz.bif (
   Dz.mk ⟨(O7.refl _), (GR.refl _)⟩) (
   Dz.bif (
    Dz.bind (F8) (fun r1313 h1 =>
    Dz.mk ⟨⟨(h1.1.trans ⟨rfl⟩).Dt⟩, h1.2⟩)) (
    Dz.bind (Ic) (fun r1952 h2 =>
    Dz.mk ⟨(h2.1.trans ⟨rfl⟩), h2.2⟩))))
theorem OK {a0 : Ac} {a1 : Bool} : Dz (fun r => GR r a0) (EG.f a0 a1) := by
 unfold EG.f
 exact Dz.mk ⟨rfl, rfl, rfl, rfl⟩
theorem JJ {a0 : Ac} {a1 : Int} {s4561 : Int} {s4570 : Int} : Dz (fun r => GR r a0) (Bf.j2 a0 a1 s4561 s4570) := by
 unfold Bf.j2
 exact Dz.IZ (fun r4586 =>
 Dz.bif (
  Dz.bif (
   Dz.none) (
   Dz.bif (
    Dz.none) (
    Dz.mk ⟨rfl, rfl, rfl, rfl⟩))) (
  Dz.bif (
   Dz.none) (
   Dz.bif (
    Dz.none) (
    Dz.mk ⟨rfl, rfl, rfl, rfl⟩))))
theorem JS {a0 : Ac} {a1 : Int} {r4462 : Int × Int} {r4553 : Int × Au} {s4561 : Int} {s4571 : Bool} : Dz (fun r => GR r a0) (Bf.j3 a0 a1 r4462 r4553 s4561 s4571) := by
 unfold Bf.j3
 exact Dz.bif (
  Dz.bnd (fun x4579 =>
   (JJ))) (
  Dz.bif (
   Dz.bnd (fun x4580 =>
    (JJ))) (
   (JJ)))
theorem Gu {a0 : Ac} {a1 : Int} {r4462 : Int × Int} {r4553 : Int × Au} {s4561 : Int} : Dz (fun r => GR r a0) (Bf.j1 a0 a1 r4462 r4553 s4561) := by
 unfold Bf.j1
 exact Dz.bif (
  Dz.bif (
   (JS)) (
   (JS))) (
  (JS))
theorem PI {a0 : Ac} {a1 : Int} : Dz (fun r => GR r a0) (Bf.f a0 a1) := by
 unfold Bf.f
 exact Dz.IZ (fun r4462 =>
 Dz.IZ (fun r4553 =>
 Dz.bif (
  Dz.bif (
   Dz.bif (
    Dz.bif (
     (Gu)) (
     (Gu))) (
    (Gu))) (
   (Gu))) (
  (Gu))))
theorem JL {a0 : Ac} {s4613 : Bool} : Dz (fun r => GR r a0) (Cy.j1 a0 s4613) := by
 unfold Cy.j1
 exact Dz.bif (
  Dz.IZ (fun r4633 =>
  Dz.mk ⟨rfl, rfl, rfl, rfl⟩)) (
  Dz.bif (
   Dz.IZ (fun r4649 =>
   Dz.mk ⟨rfl, rfl, rfl, rfl⟩)) (
   Dz.bif (
    Dz.IZ (fun r4663 =>
    Dz.mk ⟨rfl, rfl, rfl, rfl⟩)) (
    Dz.bif (
     Dz.bif (
      Dz.bif (
       Dz.IZ (fun r4669 =>
       Dz.mk ⟨rfl, rfl, rfl, rfl⟩)) (
       Dz.mk (GR.refl _))) (
      Dz.mk (GR.refl _))) (
     Dz.mk (GR.refl _)))))
theorem MI {a0 : Ac} : Dz (fun r => GR r a0) (Cy.f a0) := by
 unfold Cy.f
 exact Dz.bif (
  Dz.bif (
   (JL)) (
   (JL))) (
  (JL))
theorem OQ {a0 : Ac} {s4695 : (List Au) × Int} {k4846 : ((List Au) × Int) → Option Ac} {s4848 : Int × Bool} (h_k4846 : ∀ x, Dz (fun r => GR r a0) (k4846 x)) : Dz (fun r => GR r a0) (AB.j5 a0 s4695 k4846 s4848) := by
 unfold AB.j5
 exact Dz.bif (
  Dz.mk ⟨rfl, rfl, rfl, rfl⟩) (
  Dz.IZ (fun r4859 =>
  Dz.IZ (fun _ =>
  h_k4846 _)))
theorem OC {a0 : Ac} : ∀ (n4845 : Nat) (s4695 : (List Au) × Int), Dz (fun r => GR r a0) (AB.l2 a0 n4845 s4695) := by
 intro n4845
 induction n4845 with
 | zero => intro s4695; exact Dz.none
 | succ n4845 ih =>
  intro s4695
  unfold AB.l2
  exact Dz.bif (
   Dz.bif (
    Dz.none) (
    Dz.bif (
     ih _) (
     Dz.IZ (fun r4850 =>
     Dz.bif (
      ih _) (
      (OQ (fun x => ih x))))))) (
   Dz.mk ⟨rfl, rfl, rfl, rfl⟩)
theorem OM {a0 : Ac} {s4680 : Unit} : Dz (fun r => GR r a0) (AB.j1 a0 s4680) := by
 unfold AB.j1
 exact (OC _ _)
theorem Pk {a0 : Ac} {a1 : Bool} : Dz (fun r => GR r a0) (AB.f a0 a1) := by
 unfold AB.f
 exact Dz.bif (
  Dz.mk ⟨rfl, rfl, rfl, rfl⟩) (
  Dz.IZ (fun r4686 =>
  Dz.bif (
   Dz.mk ⟨rfl, rfl, rfl, rfl⟩) (
   (OM))))
end Go.Proofs.YtkjkgdhgcdgbhaaGreatDoor
