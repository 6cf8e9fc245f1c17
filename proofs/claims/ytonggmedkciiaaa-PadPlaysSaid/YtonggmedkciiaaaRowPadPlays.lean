/- The statement PadPlays is proved for every input, with no condition: the call returns true, and what came in reads as before. -/
import Derived.Test.YtonggmedkciiaaaRows
import Derived.Test.YtonggmedkciiaaaBase7
import Derived.Test.YtonggmedkciiaaaPure
namespace Go.Proofs.Ytonggmedkciiaaa.padPlays
open Kot Go Go.ChangeShapes Go.WideShapes Go.ChangeAt Go.RowKit
set_option linter.unusedVariables false
set_option maxRecDepth 100000
theorem own : ownKnob Try.prog.godebug = none := by kernel_rfl
theorem laidOut : laidOutB Try.prog = true := by kernel_rfl
theorem kotatsulaw16_Act.op31 (w : World) : RdT Try.prog w 31 (One kotatsulaw16_Act.c) kotatsulaw16_Act.W := fun H enc held fuel cs x h => by
  have hl := opLen Try.underlying31 h
  obtain ⟨a0, r0, w0⟩ := opFld Try.underlying31 h 0 rfl (opInt Try.underlying5)
  obtain ⟨a1, r1, w1⟩ := opFld Try.underlying31 h 1 rfl (opInt Try.underlying5)
  rw [show Try.prog.cellsOf 31 = 2 by kernel_rfl] at hl
  have e2 : cs.drop 2 = [] := spl0 hl
  have e1 : cs.drop 1 = (vi .u8) a1 ++ [] := spl r1 (by kernel_rfl) e2
  have e0 : cs.drop 0 = (vi .u8) a0 ++ ((vi .u8) a1 ++ []) := spl r0 (by kernel_rfl) e1
  exact ⟨⟨a0, a1⟩, e0, ⟨w0, w1⟩⟩
theorem lifted (os : Os) (started : os.Started) (H : Type) (enc : TypeId × Value → H) :
    ReturnsInHanded {} Try.checked os 3 .any (Rows.padPlaysSpec.pre6 enc Try.prog Try.f3 Rows.padPlaysRow.domain false) (Rows.padPlaysSpec.post enc Try.prog Try.f3 false true false false) := by
  refine returnsInHanded_of_change (C := Try.checked) own started (by kernel_rfl) Try.func3
    (ChangeSpec.witness6 (enc := enc) (C := Try.checked) false ⟨#[], #[.slice none 0 0], []⟩ 8 (by kernel_rfl) (by kernel_rfl) (by kernel_rfl) (by kernel_rfl)) ?_
  intro W base args ds gs before hval0 hW hcnd _
  have hval : ∀ (j : Nat) t v, Try.f3.params[j]? = some t → args[j]? = some v → Value.okWide Try.prog W .any base t v := hval0
  have hW' := hW
  obtain ⟨p, q, hA0, hV, rfl, hfz, hnd⟩ := hW
  have hA : DataW.TrodAll enc Try.prog W 0 (fun _ => true) true Try.f3.params.toList args.toList ds p := hA0
  rw [Try.params3] at hA hval
  obtain ⟨v0, vs0, d0, ds0, p0, q0, hargs, rfl, rfl, h0, r0⟩ := trodAll_cons hA
  obtain ⟨rfl, rfl, rfl⟩ := trodAll_nil r0
  obtain rfl : args = #[v0] := by cases args; simp_all
  obtain ⟨rfl, rfl⟩ := trodVars_none hV
  obtain ⟨a0, g0, rfl, R0, w0⟩ := argSlice Try.underlying22 (by kernel_rfl) (kotatsulaw16_Act.op31 W) (hval 0 22 v0 rfl rfl) h0
  refine (rowE (kotatsulaw16_PadPlays.ok W (oldH W) [] a0 g0 R0) (kotatsulaw16_PadPlays.pure a0 w0)).mono fun e W' ⟨he, bel⟩ => ?_
  subst he
  exact ⟨_, rfl, _, _, _, [], _, [], hW', trodAll_mk1 (shut_bool Try.underlying4 _), (trodAll_cons_mk (back laidOut (by kernel_rfl) (by kernel_rfl) h0 bel) trodAll_mk0), rfl, bel.frame _, fun h => by cases h⟩
theorem over : Rows.padPlaysRow.holds Try.pinned (OpenSpec.ofChange Rows.padPlaysSpec) :=
  OpenClaim.holds_of_wide 3 Try.f3 rfl rfl rfl rfl rfl rfl rfl ⟨rfl, rfl, rfl, rfl, rfl⟩ rfl rfl rfl rfl rfl (by kernel_rfl) Try.func3 (by kernel_rfl)
    (of_decide_eq_true (by kernel_rfl)) (by unfold Func.isWrapper; first | (rw [if_pos (by decide +kernel)]; kernel_rfl) | (rw [if_neg (by decide +kernel)]; exact ⟨rfl, rfl⟩))
    (fun os started H enc _ => lifted os started H enc)
end Go.Proofs.Ytonggmedkciiaaa.padPlays
namespace Go.Proofs.Ytonggmedkciiaaa
theorem padPlays_holds : Rows.PadPlaysSaid := padPlays.over
#print axioms padPlays_holds
end Go.Proofs.Ytonggmedkciiaaa
