/- Words for walking Go functions: files that maps point to, hosts; no program is named here. -/
import Derived.Test.YtkjkgdhgcdgbhaaGreatDoorBase16
namespace Kot
open Go
section
variable {X : World} {J : HL → List HP → Prop} {hp : HL} {L : List HP} {A B : HP}
end
/-! ### files -/
structure YU where
  p : List Int
  safe : Int
structure Aar where
  name : List UInt8
  f : Int
  frm : List UInt8
structure HS where
  files : List YU
  l : Ou
  safe : Ou
  wait : List Aar
  limit : Int
  arm : Int
  fault : Int
  reads : Int
structure HT where
  h : TypeId
  c : TypeId
  f : TypeId
  b : TypeId
section
variable {X : World} {J : HL → List HP → Prop} {hp : HL} {L : List HP} {T : HT} {b : Nat} {x : HS} {fa : Nat → Nat} {S : List Nat} {fs : List YU}
theorem XC {A B : List HP} (hp : A.Perm B) : ∀ {h : HL}, Ut A h → ∃ h', Ut B h' ∧ h'.Perm h := by
  induction hp with
  | nil => intro h hs; exact ⟨h, hs, List.Perm.refl _⟩
  | cons x _ ih =>
    rintro h ⟨h1, h2, rfl, ha, hs⟩
    obtain ⟨k, hk, hp⟩ := ih hs
    exact ⟨h1 ++ k, ⟨h1, k, rfl, ha, hk⟩, hp.append_left _⟩
  | swap x y l =>
    rintro h ⟨h1, h2, rfl, ha, h3, h4, rfl, hb, hs⟩
    refine ⟨h3 ++ (h1 ++ h4), ⟨h3, _, rfl, hb, h1, h4, rfl, ha, hs⟩, ?_⟩
    rw [← List.append_assoc, ← List.append_assoc]
    exact List.Perm.append_right _ List.perm_append_comm
  | trans _ _ ih1 ih2 =>
    intro h hs
    obtain ⟨k, hk, hp⟩ := ih1 hs
    obtain ⟨k2, hk2, hp2⟩ := ih2 hk
    exact ⟨k2, hk2, hp2.trans hp⟩
end
end Kot
