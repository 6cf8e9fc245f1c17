/- The statement HostFails is proved for every input, with no condition: the call returns true, and what came in reads as before. -/
import Derived.Test.YtgfjecngfmachaaRows
import Derived.Test.YtgfjecngfmachaaBase7
import Derived.Test.YtgfjecngfmachaaHostFails
namespace Go.Proofs.Ytgfjecngfmachaa.hostFails
open Kot Go Go.ChangeShapes Go.WideShapes Go.ChangeAt Go.RowKit
set_option linter.unusedVariables false
set_option maxRecDepth 100000
theorem own : ownKnob Try.prog.godebug = none := by kernel_rfl
theorem laidOut : laidOutB Try.prog = true := by kernel_rfl
theorem kotatsulaw01_Act.op42 (w : World) : RdT Try.prog w 42 kotatsulaw01_Act.R kotatsulaw01_Act.W := fun H enc held fuel cs x h => by
  have hl := opLen Try.underlying42 h
  obtain ⟨a0, r0, w0⟩ := opFld Try.underlying42 h 0 rfl (opInt Try.underlying5)
  obtain ⟨a1, r1, w1⟩ := opFld Try.underlying42 h 1 rfl (opInt Try.underlying5)
  obtain ⟨a2, r2, w2⟩ := opFld Try.underlying42 h 2 rfl (opInt Try.underlying5)
  obtain ⟨a3, ⟨g3, r3, R3⟩, w3⟩ := opFld Try.underlying42 h 3 rfl (opSlice Try.underlying22 (by kernel_rfl) (opInt Try.underlying5))
  obtain ⟨a4, r4, w4⟩ := opFld Try.underlying42 h 4 rfl (opInt Try.underlying3)
  obtain ⟨a5, ⟨g5, r5, R5⟩, w5⟩ := opFld Try.underlying42 h 5 rfl (opSlice Try.underlying23 (by kernel_rfl) (opInt Try.underlying3))
  rw [show Try.prog.cellsOf 42 = 6 by kernel_rfl] at hl
  have e6 : cs.drop 6 = [] := spl0 hl
  have e5 : cs.drop 5 = [sv g5 a5.length] ++ [] := spl r5 (by kernel_rfl) e6
  have e4 : cs.drop 4 = (vi .i64) a4 ++ ([sv g5 a5.length] ++ []) := spl r4 (by kernel_rfl) e5
  have e3 : cs.drop 3 = [sv g3 a3.length] ++ ((vi .i64) a4 ++ ([sv g5 a5.length] ++ [])) := spl r3 (by kernel_rfl) e4
  have e2 : cs.drop 2 = (vi .u8) a2 ++ ([sv g3 a3.length] ++ ((vi .i64) a4 ++ ([sv g5 a5.length] ++ []))) := spl r2 (by kernel_rfl) e3
  have e1 : cs.drop 1 = (vi .u8) a1 ++ ((vi .u8) a2 ++ ([sv g3 a3.length] ++ ((vi .i64) a4 ++ ([sv g5 a5.length] ++ [])))) := spl r1 (by kernel_rfl) e2
  have e0 : cs.drop 0 = (vi .u8) a0 ++ ((vi .u8) a1 ++ ((vi .u8) a2 ++ ([sv g3 a3.length] ++ ((vi .i64) a4 ++ ([sv g5 a5.length] ++ []))))) := spl r0 (by kernel_rfl) e1
  exact ⟨⟨a0, a1, a2, a3, a4, a5⟩, ⟨((g3.1, a3.length, g3.2), (g5.1, a5.length, g5.2)), e0, R3, R5⟩, ⟨w0, w1, w2, w3, w4, w5⟩⟩
theorem lifted (os : Os) (started : os.Started) (H : Type) (enc : TypeId × Value → H) :
    ReturnsInHanded {} Try.checked os 6 .any (Rows.hostFailsSpec.pre6 enc Try.prog Try.f6 Rows.hostFailsRow.domain false) (Rows.hostFailsSpec.post enc Try.prog Try.f6 false true false false) := by
  refine returnsInHanded_of_change (C := Try.checked) own started (by kernel_rfl) Try.func6
    (ChangeSpec.witness6 (enc := enc) (C := Try.checked) false ⟨#[], #[.int .u8 0, .slice none 0 0, .bool false], []⟩ 8 (by kernel_rfl) (by kernel_rfl) (by kernel_rfl) (by kernel_rfl)) ?_
  intro W base args ds gs before hval0 hW hcnd _
  have hval : ∀ (j : Nat) t v, Try.f6.params[j]? = some t → args[j]? = some v → Value.okWide Try.prog W .any base t v := hval0
  have hW' := hW
  obtain ⟨p, q, hA0, hV, rfl, hfz, hnd⟩ := hW
  have hA : DataW.TrodAll enc Try.prog W 0 (fun _ => true) true Try.f6.params.toList args.toList ds p := hA0
  rw [Try.params6] at hA hval
  obtain ⟨v0, vs0, d0, ds0, p0, q0, hargs, rfl, rfl, h0, r0⟩ := trodAll_cons hA
  obtain ⟨v1, vs1, d1, ds1, p1, q1, rfl, rfl, rfl, h1, r1⟩ := trodAll_cons r0
  obtain ⟨v2, vs2, d2, ds2, p2, q2, rfl, rfl, rfl, h2, r2⟩ := trodAll_cons r1
  obtain ⟨rfl, rfl, rfl⟩ := trodAll_nil r2
  obtain rfl : args = #[v0, v1, v2] := by cases args; simp_all
  obtain ⟨rfl, rfl⟩ := trodVars_none hV
  obtain ⟨a0, rfl, w0⟩ := argInt Try.underlying5 (hval 0 5 v0 rfl rfl) h0
  obtain ⟨a1, g1, rfl, R1, w1⟩ := argSlice Try.underlying38 (by kernel_rfl) (kotatsulaw01_Act.op42 W) (hval 1 38 v1 rfl rfl) h1
  obtain ⟨a2, rfl⟩ := argBool Try.underlying4 (hval 2 4 v2 rfl rfl) h2
  refine (rowE (kotatsulaw01_HostFails.ok W (oldH W) [] a0 a1 (g1.1, a1.length, g1.2) a2 R1) (kotatsulaw01_HostFails.pure a0 w0 a1 w1 a2)).mono fun e W' ⟨he, bel⟩ => ?_
  subst he
  exact ⟨_, rfl, _, _, _, [], _, [], hW', trodAll_mk1 (shut_bool Try.underlying4 _), (trodAll_cons_mk (back laidOut (by kernel_rfl) (by kernel_rfl) h0 bel) (trodAll_cons_mk (back laidOut (by kernel_rfl) (by kernel_rfl) h1 bel) (trodAll_cons_mk (back laidOut (by kernel_rfl) (by kernel_rfl) h2 bel) trodAll_mk0))), rfl, bel.frame _, fun h => by cases h⟩
theorem over : Rows.hostFailsRow.holds Try.pinned (OpenSpec.ofChange Rows.hostFailsSpec) :=
  OpenClaim.holds_of_wide 6 Try.f6 rfl rfl rfl rfl rfl rfl rfl ⟨rfl, rfl, rfl, rfl, rfl⟩ rfl rfl rfl rfl rfl (by kernel_rfl) Try.func6 (by kernel_rfl)
    (of_decide_eq_true (by kernel_rfl)) (by unfold Func.isWrapper; first | (rw [if_pos (by decide +kernel)]; kernel_rfl) | (rw [if_neg (by decide +kernel)]; exact ⟨rfl, rfl⟩))
    (fun os started H enc _ => lifted os started H enc)
end Go.Proofs.Ytgfjecngfmachaa.hostFails
namespace Go.Proofs.Ytgfjecngfmachaa
theorem hostFails_holds : Rows.HostFailsSaid := hostFails.over
#print axioms hostFails_holds
end Go.Proofs.Ytgfjecngfmachaa
