/- Functions of the host that are walked by hand. -/
import Derived.Test.YtkjkgdhgcdgbhaaGreatDoorProg
import Derived.Test.YtkjkgdhgcdgbhaaGreatDoorBase18
import Derived.KernelRfl
namespace Go.Proofs.YtkjkgdhgcdgbhaaGreatDoor
open Kot Go
set_option maxRecDepth 100000
theorem Yv {P : Program} {X : World} {hp : HL} {L : List HP} {A : HP} {k n : Nat} {v : Value} {l : List Value} (H : OW P X hp L k v n l) : OW P X hp (A :: L) k v n l := ⟨H.len, fun w hw => H.go w hw.drop⟩
theorem VU.ok (X : World) (hp : HL) (L : List HP) (xs : List Int) (g : C6) (H : OW Tryz.prog X hp L 1 (sg g) xs.length (xs.flatMap (vi .u8))) : DJ Tryz.prog X ((lim (([] : List Int).length + xs.length)).bind fun _ => some xs) 106 [sg g] hp L
    (fun r => Ex (ι := C6) (fun g => sg g) (fun _ _ => True) hp (fun g => sl (sg g) 5 1 (r.flatMap (vi .u8)) :: L)) := by
  obtain ⟨a, n, c⟩ := g
  cases a with
  | none =>
    refine fn Tryz.func106 rfl Tryz.ntmps106 rfl <| seq <| DR <| U1 rfl Bc <| Bn <| nn <| seq <| seq <| DR <| U1 rfl mv <| U1 rfl (slN Tryz.runUnderlying22 rfl rfl) <| Bn <| nn <| I5 rfl <| seq <| DR <| U1 rfl Bc <| Bn <| nn <| ?_
    refine SJ.cx (ι := Unit) (Φ := fun _ => xs = []) (hp' := fun _ => hp) (L' := fun _ => L) (fun w hw => ⟨(), ?_, hw⟩) (fun _ hx => ?_)
    · have h1 := (H.go w hw w rfl).2
      simp [sg, Builtin.firstCells] at h1
      have h2 : List.flatMap (vi .u8) xs = [] := List.flatMap_eq_nil_iff.2 h1
      have h3 := Kq (k := 1) (f := vi .u8) (fun _ => rfl) xs
      rw [h2] at h3
      exact List.eq_nil_of_length_eq_zero (by simpa using h3.symm)
    · subst hx
      refine K5 fun u hu => Gn cS 5 1 <| ret <| pr <| q1 rfl er TT (rt rfl) <| ex (s := (none, 0, 0)) (sub.refl _) trivial
  | some a =>
    exact fn Tryz.func106 rfl Tryz.ntmps106 rfl <| seq <| DR <| U1 rfl Bc <| Bn <| nn <| seq <| seq <| DR <| U1 rfl mv <| U1 rfl (slN Tryz.runUnderlying22 rfl rfl) <| Bn <| nn <| HV rfl <| H9 <| nn <|
      seq <| DR <| O1 <| ZT rfl Tryz.runUnderlying22 Tryz.sizeOf5 fun b => U1 rfl mv <| tk fun u hu => Gb cL (xs := ([] : List Int)) (f := vi .u8) (fun _ => rfl) <| O1 <| YW (xs := ([] : List Int)) (ys := xs) (f := vi .u8) (i := 0) rfl rfl rfl rfl (fun _ => rfl) (by intro x v hv; simp only [vi, List.mem_cons, List.not_mem_nil, or_false] at hv; rcases hv with rfl <;> rfl)
        (Yv H) hu Tryz.runUnderlying22 Tryz.runUnderlying22 (.inl ⟨_, rfl⟩) Tryz.zeroValue5 rfl Tryz.sizeOf5 Tryz.typeInfo5 rfl fun g => U1 rfl Bc <| Bn <| nn <| ret <| q1 rfl er TT (rt rfl) <| ex (s := g) (sub.refl _) trivial
end Go.Proofs.YtkjkgdhgcdgbhaaGreatDoor
