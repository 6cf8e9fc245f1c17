/- What parts of the board leave as it was. -/
import Derived.Test.YtkjkgdhgcdgbhaaGreatDoorTotA
namespace Go.Proofs.YtkjkgdhgcdgbhaaGreatDoor
open Kot Go
set_option maxRecDepth 100000
set_option linter.unusedVariables false
structure GM (a b : Ac) : Prop where
  Av : a.Av = b.Av
  Ca : a.Ca = b.Ca
  EZ : a.EZ = b.EZ
  Cm : a.Cm = b.Cm
theorem GM.refl (a : Ac) : GM a a := ⟨rfl, rfl, rfl, rfl⟩
theorem GM.trans {a b c : Ac} (h : GM a b) (g : GM b c) : GM a c := ⟨h.Av.trans g.Av, h.Ca.trans g.Ca, h.EZ.trans g.EZ, h.Cm.trans g.Cm⟩
structure O0 (a b : A7) : Prop where
  Du : a.Du = b.Du
theorem O0.refl (a : A7) : O0 a a := ⟨rfl⟩
theorem O0.trans {a b c : A7} (h : O0 a b) (g : O0 b c) : O0 a c := ⟨h.Du.trans g.Du⟩
theorem PM {a0 : Ac} {a1 : Int} : Dz (fun r => GM r.2 a0) (FB.f a0 a1) := by
 unfold FB.f
 exact Dz.IY (fun r760 =>
 Dz.bif (
  Dz.IY (fun r764 =>
  Dz.bif (
   Dz.none) (
   Dz.mk ⟨rfl, rfl, rfl, rfl⟩))) (
  Dz.mk ⟨rfl, rfl, rfl, rfl⟩))
theorem PV {a0 : Ac} {a1 : Int} : Dz (fun r => GM r.2 a0) (FR.f a0 a1) := by
 unfold FR.f
 exact Dz.bif (
  Dz.IY (fun r718 =>
  Dz.bnd (fun x722 =>
   Dz.mk ⟨rfl, rfl, rfl, rfl⟩))) (
  Dz.bif (
   Dz.bif (
    Dz.none) (
    Dz.bif (
     Dz.mk ⟨rfl, rfl, rfl, rfl⟩) (
     Dz.mk ⟨rfl, rfl, rfl, rfl⟩))) (
   Dz.bif (
    Dz.bind (PM) (fun r773 h1 =>
    Dz.IY (fun r791 =>
    Dz.mk ⟨h1.Av, h1.Ca, h1.EZ, h1.Cm⟩))) (
    Dz.mk (GM.refl _))))
theorem H7 {a0 : A7} {a0c2 : Ac} {a0c3 : Al} {a0c4 : Ai} {a0c4c1 : Am} {a0c4c2 : An} {a0c5 : AL} {a0c6 : AL} {a1 : Int} {s974 : Bool} : Dz (fun r => O0 r.2.1 a0 ∧ GM r.2.2.1 a0c2) (Aw.j2 a0 a0c2 a0c3 a0c4 a0c4c1 a0c4c2 a0c5 a0c6 a1 s974) := by
 unfold Aw.j2
 exact Dz.bif (
  Dz.bif (
   Dz.IY (fun r983 =>
   Dz.mk ⟨⟨rfl⟩, (GM.refl _)⟩)) (
   Dz.bif (
    Dz.IY (fun r1002 =>
    Dz.mk ⟨⟨rfl⟩, (GM.refl _)⟩)) (
    Dz.none))) (
  Dz.bif (
   Dz.IY (fun r1203 =>
   Dz.bif (
    Dz.mk ⟨⟨rfl⟩, (GM.refl _)⟩) (
    Dz.mk ⟨(O0.refl _), (GM.refl _)⟩))) (
   Dz.mk ⟨(O0.refl _), (GM.refl _)⟩))
theorem H6 {a0 : A7} {a0c1 : Ag} {a0c2 : Ac} {a0c3 : Al} {a0c3c1 : Aa} {a0c3c2 : Aa} {a0c3c3 : Aa} {a0c3c4 : Aa} {a0c4 : Ai} {a0c4c1 : Am} {a0c4c2 : An} {a0c5 : AL} {a0c6 : AL} {a1 : Int} {s674 : Bool} : Dz (fun r => O0 r.2.1 a0 ∧ GM r.2.2.1 a0c2) (Aw.j1 a0 a0c1 a0c2 a0c3 a0c3c1 a0c3c2 a0c3c3 a0c3c4 a0c4 a0c4c1 a0c4c2 a0c5 a0c6 a1 s674) := by
 unfold Aw.j1
 exact Dz.bif (
  Dz.IY (fun r701 =>
  Dz.mk ⟨⟨rfl⟩, (GM.refl _)⟩)) (
  Dz.bif (
   Dz.bind (PV) (fun r803 h1 =>
   Dz.mk ⟨⟨rfl⟩, h1⟩)) (
   Dz.bif (
    Dz.IY (fun r940 =>
    Dz.mk ⟨⟨rfl⟩, (GM.refl _)⟩)) (
    Dz.bif (
     (H7)) (
     (H7)))))
theorem F6 {a0 : A7} {a0c1 : Ag} {a0c2 : Ac} {a0c3 : Al} {a0c3c1 : Aa} {a0c3c2 : Aa} {a0c3c3 : Aa} {a0c3c4 : Aa} {a0c4 : Ai} {a0c4c1 : Am} {a0c4c2 : An} {a0c5 : AL} {a0c6 : AL} {a1 : Int} : Dz (fun r => O0 r.2.1 a0 ∧ GM r.2.2.1 a0c2) (Aw.f a0 a0c1 a0c2 a0c3 a0c3c1 a0c3c2 a0c3c3 a0c3c4 a0c4 a0c4c1 a0c4c2 a0c5 a0c6 a1) := by
 unfold Aw.f
 exact Dz.bif (
  (H6)) (
  (H6))
theorem EP {a0 : A7} {a0c1 : Ag} {a0c2 : Ac} {a0c3 : Al} {a0c3c1 : Aa} {a0c3c2 : Aa} {a0c3c3 : Aa} {a0c3c4 : Aa} {a0c4 : Ai} {a0c4c1 : Am} {a0c4c2 : An} {a0c5 : AL} {a0c6 : AL} {r649 : Int × Bool} {s653 : Int} : Dz (fun r => O0 r.2.1 a0 ∧ GM r.2.2.1 a0c2) (Bd.j1 a0 a0c1 a0c2 a0c3 a0c3c1 a0c3c2 a0c3c3 a0c3c4 a0c4 a0c4c1 a0c4c2 a0c5 a0c6 r649 s653) := by
 unfold Bd.j1
 exact Dz.bif (
  Dz.mk ⟨⟨rfl⟩, (GM.refl _)⟩) (
  Dz.bif (
   Dz.bind (F6) (fun r1209 h1 =>
   Dz.IY (fun r1254 =>
   Dz.mk ⟨(h1.1.trans ⟨rfl⟩), h1.2⟩))) (
   Dz.mk ⟨⟨rfl⟩, (GM.refl _)⟩))
theorem Lb {a0 : A7} {a0c1 : Ag} {a0c2 : Ac} {a0c3 : Al} {a0c3c1 : Aa} {a0c3c2 : Aa} {a0c3c3 : Aa} {a0c3c4 : Aa} {a0c4 : Ai} {a0c4c1 : Am} {a0c4c2 : An} {a0c5 : AL} {a0c6 : AL} : Dz (fun r => O0 r.2.1 a0 ∧ GM r.2.2.1 a0c2) (Bd.f a0 a0c1 a0c2 a0c3 a0c3c1 a0c3c2 a0c3c3 a0c3c4 a0c4 a0c4c1 a0c4c2 a0c5 a0c6) := by
 unfold Bd.f
 exact Dz.IY (fun r649 =>
 Dz.bif (
  Dz.bif (
   (EP)) (
   (EP))) (
  (EP)))
theorem Hz {a0 : A7} {a0c1 : Ag} {a0c2 : Ac} {a0c3 : Al} {a0c3c1 : Aa} {a0c3c2 : Aa} {a0c3c3 : Aa} {a0c3c4 : Aa} {a0c4 : Ai} {a0c4c1 : Am} {a0c4c2 : An} {a0c5 : AL} {a0c6 : AL} {a1 : Int} {a2 : Int} : Dz (fun r => O0 r a0) (Ci.f a0 a0c1 a0c2 a0c3 a0c3c1 a0c3c2 a0c3c3 a0c3c4 a0c4 a0c4c1 a0c4c2 a0c5 a0c6 a1 a2) := by
 unfold Ci.f
 exact Dz.bif (
  Dz.bif (
   Dz.none) (
   Dz.mk ⟨rfl⟩)) (
  Dz.bif (
   Dz.bif (
    Dz.bif (
     Dz.none) (
     Dz.mk ⟨rfl⟩)) (
    Dz.mk (O0.refl _))) (
   Dz.mk (O0.refl _)))
theorem PI {a0 : Ac} {a1 : Int} {a2 : Int} : Dz (fun r => GM r a0) (F9.f a0 a1 a2) := by
 unfold F9.f
 exact Dz.bif (
  Dz.bif (
   Dz.bif (
    Dz.none) (
    Dz.mk ⟨rfl, rfl, rfl, rfl⟩)) (
   Dz.bif (
    Dz.IY (fun r1426 =>
    Dz.bif (
     Dz.none) (
     Dz.mk ⟨rfl, rfl, rfl, rfl⟩))) (
    Dz.IY (fun r1439 =>
    Dz.bif (
     Dz.none) (
     Dz.mk ⟨rfl, rfl, rfl, rfl⟩))))) (
  Dz.bif (
   Dz.bif (
    Dz.none) (
    Dz.mk ⟨rfl, rfl, rfl, rfl⟩)) (
   Dz.bif (
    Dz.IY (fun r1453 =>
    Dz.bif (
     Dz.none) (
     Dz.mk ⟨rfl, rfl, rfl, rfl⟩))) (
    Dz.IY (fun r1466 =>
    Dz.bif (
     Dz.none) (
     Dz.mk ⟨rfl, rfl, rfl, rfl⟩)))))
theorem PX {a0 : Ac} {a1 : Int} {a2 : Int} : Dz (fun r => GM r a0) (FU.f a0 a1 a2) := by
 unfold FU.f
 exact Dz.bif (
  Dz.IY (fun r1375 =>
  Dz.mk ⟨rfl, rfl, rfl, rfl⟩)) (
  Dz.bif (
   Dz.mk ⟨rfl, rfl, rfl, rfl⟩) (
   Dz.bif (
    Dz.mk ⟨rfl, rfl, rfl, rfl⟩) (
    Dz.bif (
     Dz.bif (
      Dz.none) (
      Dz.mk ⟨rfl, rfl, rfl, rfl⟩)) (
     Dz.bif (
      Dz.IY (fun r1400 =>
      Dz.mk ⟨rfl, rfl, rfl, rfl⟩)) (
      Dz.bif (
       Dz.IY (fun r1420 =>
       Dz.mk ⟨rfl, rfl, rfl, rfl⟩)) (
       Dz.bif (
        Dz.bind (PI) (fun r1479 h1 =>
        Dz.IY (fun r1485 =>
        Dz.mk ⟨(h1.trans ⟨rfl, rfl, rfl, rfl⟩).Av, (h1.trans ⟨rfl, rfl, rfl, rfl⟩).Ca, (h1.trans ⟨rfl, rfl, rfl, rfl⟩).EZ, (h1.trans ⟨rfl, rfl, rfl, rfl⟩).Cm⟩))) (
        Dz.mk ⟨rfl, rfl, rfl, rfl⟩)))))))
theorem Fw {a0 : A7} {a0c2 : Ac} {a0c3 : Al} {a0c3c1 : Aa} {a0c3c2 : Aa} {a0c3c3 : Aa} {a0c3c4 : Aa} {a0c4 : Ai} {a0c4c1 : Am} {a0c4c2 : An} {a0c5 : AL} {a0c6 : AL} {a1 : Int} {a2 : Int} {s1503 : Bool} : Dz (fun r => O0 r.1 a0 ∧ GM r.2.1 a0c2) (Ay.j2 a0 a0c2 a0c3 a0c3c1 a0c3c2 a0c3c3 a0c3c4 a0c4 a0c4c1 a0c4c2 a0c5 a0c6 a1 a2 s1503) := by
 unfold Ay.j2
 exact Dz.bif (
  Dz.IY (fun r1794 =>
  Dz.mk ⟨⟨rfl⟩, (GM.refl _)⟩)) (
  Dz.bif (
   Dz.mk ⟨⟨rfl⟩, (GM.refl _)⟩) (
   Dz.bif (
    Dz.IY (fun r1806 =>
    Dz.IY (fun r1810 =>
    Dz.mk ⟨⟨rfl⟩, (GM.refl _)⟩))) (
    Dz.bif (
     Dz.IY (fun r1946 =>
     Dz.mk ⟨⟨rfl⟩, (GM.refl _)⟩)) (
     Dz.mk ⟨⟨rfl⟩, (GM.refl _)⟩))))
theorem H8 {a0 : A7} {a0c1 : Ag} {a0c2 : Ac} {a0c3 : Al} {a0c3c1 : Aa} {a0c3c2 : Aa} {a0c3c3 : Aa} {a0c3c4 : Aa} {a0c4 : Ai} {a0c4c1 : Am} {a0c4c2 : An} {a0c5 : AL} {a0c6 : AL} {a1 : Int} {a2 : Int} {s1333 : Bool} : Dz (fun r => O0 r.1 a0 ∧ GM r.2.1 a0c2) (Ay.j1 a0 a0c1 a0c2 a0c3 a0c3c1 a0c3c2 a0c3c3 a0c3c4 a0c4 a0c4c1 a0c4c2 a0c5 a0c6 a1 a2 s1333) := by
 unfold Ay.j1
 exact Dz.bif (
  Dz.bind (Hz) (fun r1357 h1 =>
  Dz.mk ⟨(h1.trans ⟨rfl⟩), (GM.refl _)⟩)) (
  Dz.bif (
   Dz.bind (PX) (fun r1497 h2 =>
   Dz.mk ⟨⟨rfl⟩, h2⟩)) (
   Dz.bif (
    (Fw)) (
    Dz.bif (
     (Fw)) (
     (Fw)))))
theorem Ig {a0 : A7} {a0c1 : Ag} {a0c2 : Ac} {a0c3 : Al} {a0c3c1 : Aa} {a0c3c2 : Aa} {a0c3c3 : Aa} {a0c3c4 : Aa} {a0c4 : Ai} {a0c4c1 : Am} {a0c4c2 : An} {a0c5 : AL} {a0c6 : AL} {a1 : Int} {a2 : Int} : Dz (fun r => O0 r.1 a0 ∧ GM r.2.1 a0c2) (Ay.f a0 a0c1 a0c2 a0c3 a0c3c1 a0c3c2 a0c3c3 a0c3c4 a0c4 a0c4c1 a0c4c2 a0c5 a0c6 a1 a2) := by
 unfold Ay.f
 exact Dz.bif (
  (H8)) (
  (H8))
theorem Ld {a0 : A7} {a0c1 : Ag} {a0c2 : Ac} {a0c3 : Al} {a0c3c1 : Aa} {a0c3c2 : Aa} {a0c3c3 : Aa} {a0c3c4 : Aa} {a0c4 : Ai} {a0c4c1 : Am} {a0c4c2 : An} {a0c5 : AL} {a0c6 : AL} : Dz (fun r => O0 r.2.1 a0 ∧ GM r.2.2.1 a0c2) (C7.f a0 a0c1 a0c2 a0c3 a0c3c1 a0c3c2 a0c3c3 a0c3c4 a0c4 a0c4c1 a0c4c2 a0c5 a0c6) := by
 unfold C7.f
 exact Dz.bif (
  Dz.mk ⟨⟨rfl⟩, (GM.refl _)⟩) (
  Dz.bif (
   Dz.mk ⟨(O0.refl _), (GM.refl _)⟩) (
   Dz.bif (
    Dz.bind (F6) (fun r1313 h1 =>
    Dz.mk ⟨⟨(h1.1.trans ⟨rfl⟩).Du⟩, h1.2⟩)) (
    Dz.bind (Ig) (fun r1952 h2 =>
    Dz.mk ⟨(h2.1.trans ⟨rfl⟩), h2.2⟩))))
theorem OM {a0 : Ac} {a1 : Bool} : Dz (fun r => GM r a0) (EG.f a0 a1) := by
 unfold EG.f
 exact Dz.mk ⟨rfl, rfl, rfl, rfl⟩
theorem JO {a0 : Ac} {a1 : Int} {s4561 : Int} {s4570 : Int} : Dz (fun r => GM r a0) (Be.j2 a0 a1 s4561 s4570) := by
 unfold Be.j2
 exact Dz.IY (fun r4586 =>
 Dz.bif (
  Dz.bif (
   Dz.none) (
   Dz.bif (
    Dz.none) (
    Dz.mk ⟨rfl, rfl, rfl, rfl⟩))) (
  Dz.bif (
   Dz.none) (
   Dz.bif (
    Dz.none) (
    Dz.mk ⟨rfl, rfl, rfl, rfl⟩))))
theorem JP {a0 : Ac} {a1 : Int} {r4462 : Int × Int} {r4553 : Int × Au} {s4561 : Int} {s4571 : Bool} : Dz (fun r => GM r a0) (Be.j3 a0 a1 r4462 r4553 s4561 s4571) := by
 unfold Be.j3
 exact Dz.bif (
  Dz.bnd (fun x4579 =>
   (JO))) (
  Dz.bif (
   Dz.bnd (fun x4580 =>
    (JO))) (
   (JO)))
theorem Gy {a0 : Ac} {a1 : Int} {r4462 : Int × Int} {r4553 : Int × Au} {s4561 : Int} : Dz (fun r => GM r a0) (Be.j1 a0 a1 r4462 r4553 s4561) := by
 unfold Be.j1
 exact Dz.bif (
  Dz.bif (
   (JP)) (
   (JP))) (
  (JP))
theorem PK {a0 : Ac} {a1 : Int} : Dz (fun r => GM r a0) (Be.f a0 a1) := by
 unfold Be.f
 exact Dz.IY (fun r4462 =>
 Dz.IY (fun r4553 =>
 Dz.bif (
  Dz.bif (
   Dz.bif (
    Dz.bif (
     (Gy)) (
     (Gy))) (
    (Gy))) (
   (Gy))) (
  (Gy))))
theorem JR {a0 : Ac} {s4613 : Bool} : Dz (fun r => GM r a0) (Cy.j1 a0 s4613) := by
 unfold Cy.j1
 exact Dz.bif (
  Dz.IY (fun r4633 =>
  Dz.mk ⟨rfl, rfl, rfl, rfl⟩)) (
  Dz.bif (
   Dz.IY (fun r4649 =>
   Dz.mk ⟨rfl, rfl, rfl, rfl⟩)) (
   Dz.bif (
    Dz.IY (fun r4663 =>
    Dz.mk ⟨rfl, rfl, rfl, rfl⟩)) (
    Dz.bif (
     Dz.bif (
      Dz.bif (
       Dz.IY (fun r4669 =>
       Dz.mk ⟨rfl, rfl, rfl, rfl⟩)) (
       Dz.mk (GM.refl _))) (
      Dz.mk (GM.refl _))) (
     Dz.mk (GM.refl _)))))
theorem MJ {a0 : Ac} : Dz (fun r => GM r a0) (Cy.f a0) := by
 unfold Cy.f
 exact Dz.bif (
  Dz.bif (
   (JR)) (
   (JR))) (
  (JR))
theorem OO {a0 : Ac} {s4695 : (List Au) × Int} {k4846 : ((List Au) × Int) → Option Ac} {s4848 : Int × Bool} (h_k4846 : ∀ x, Dz (fun r => GM r a0) (k4846 x)) : Dz (fun r => GM r a0) (AB.j5 a0 s4695 k4846 s4848) := by
 unfold AB.j5
 exact Dz.bif (
  Dz.mk ⟨rfl, rfl, rfl, rfl⟩) (
  Dz.IY (fun r4859 =>
  Dz.IY (fun _ =>
  h_k4846 _)))
theorem OP {a0 : Ac} : ∀ (n4845 : Nat) (s4695 : (List Au) × Int), Dz (fun r => GM r a0) (AB.l2 a0 n4845 s4695) := by
 intro n4845
 induction n4845 with
 | zero => intro s4695; exact Dz.none
 | succ n4845 ih =>
  intro s4695
  unfold AB.l2
  exact Dz.bif (
   Dz.bif (
    Dz.none) (
    Dz.bif (
     ih _) (
     Dz.IY (fun r4850 =>
     Dz.bif (
      ih _) (
      (OO (fun x => ih x))))))) (
   Dz.mk ⟨rfl, rfl, rfl, rfl⟩)
theorem ON {a0 : Ac} {s4680 : Unit} : Dz (fun r => GM r a0) (AB.j1 a0 s4680) := by
 unfold AB.j1
 exact (OP _ _)
theorem Pk {a0 : Ac} {a1 : Bool} : Dz (fun r => GM r a0) (AB.f a0 a1) := by
 unfold AB.f
 exact Dz.bif (
  Dz.mk ⟨rfl, rfl, rfl, rfl⟩) (
  Dz.IY (fun r4686 =>
  Dz.bif (
   Dz.mk ⟨rfl, rfl, rfl, rfl⟩) (
   (ON))))
end Go.Proofs.YtkjkgdhgcdgbhaaGreatDoor
