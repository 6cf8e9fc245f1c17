/- The statement HostNil is proved for every input, with no condition: the call returns true, and what came in reads as before. -/
import Derived.Test.YtgfjecngfmachaaRows
import Derived.Test.YtgfjecngfmachaaBase7
import Derived.Test.YtgfjecngfmachaaHostNil
namespace Go.Proofs.Ytgfjecngfmachaa.hostNil
open Kot Go Go.ChangeShapes Go.WideShapes Go.ChangeAt Go.RowKit
set_option linter.unusedVariables false
set_option maxRecDepth 100000
theorem own : ownKnob Try.prog.godebug = none := by kernel_rfl
theorem laidOut : laidOutB Try.prog = true := by kernel_rfl
theorem lifted (os : Os) (started : os.Started) (H : Type) (enc : TypeId × Value → H) :
    ReturnsInHanded {} Try.checked os 7 .any (Rows.hostNilSpec.pre6 enc Try.prog Try.f7 Rows.hostNilRow.domain false) (Rows.hostNilSpec.post enc Try.prog Try.f7 false true false false) := by
  refine returnsInHanded_of_change (C := Try.checked) own started (by kernel_rfl) Try.func7
    (ChangeSpec.witness6 (enc := enc) (C := Try.checked) false ⟨#[], #[.string ByteArray.empty, .slice none 0 0, .int .i64 0, .slice none 0 0], []⟩ 8 (by kernel_rfl) (by kernel_rfl) (by kernel_rfl) (by kernel_rfl)) ?_
  intro W base args ds gs before hval0 hW hcnd _
  have hval : ∀ (j : Nat) t v, Try.f7.params[j]? = some t → args[j]? = some v → Value.okWide Try.prog W .any base t v := hval0
  have hW' := hW
  obtain ⟨p, q, hA0, hV, rfl, hfz, hnd⟩ := hW
  have hA : DataW.TrodAll enc Try.prog W 0 (fun _ => true) true Try.f7.params.toList args.toList ds p := hA0
  rw [Try.params7] at hA hval
  obtain ⟨v0, vs0, d0, ds0, p0, q0, hargs, rfl, rfl, h0, r0⟩ := trodAll_cons hA
  obtain ⟨v1, vs1, d1, ds1, p1, q1, rfl, rfl, rfl, h1, r1⟩ := trodAll_cons r0
  obtain ⟨v2, vs2, d2, ds2, p2, q2, rfl, rfl, rfl, h2, r2⟩ := trodAll_cons r1
  obtain ⟨v3, vs3, d3, ds3, p3, q3, rfl, rfl, rfl, h3, r3⟩ := trodAll_cons r2
  obtain ⟨rfl, rfl, rfl⟩ := trodAll_nil r3
  obtain rfl : args = #[v0, v1, v2, v3] := by cases args; simp_all
  obtain ⟨rfl, rfl⟩ := trodVars_none hV
  obtain ⟨a0, rfl, w0⟩ := argStr Try.underlying9 (hval 0 9 v0 rfl rfl) h0
  obtain ⟨a1, g1, rfl, R1, w1⟩ := argSlice Try.underlying22 (by kernel_rfl) (opInt Try.underlying5) (hval 1 22 v1 rfl rfl) h1
  obtain ⟨a2, rfl, w2⟩ := argInt Try.underlying3 (hval 2 3 v2 rfl rfl) h2
  obtain ⟨a3, g3, rfl, R3, w3⟩ := argSlice Try.underlying23 (by kernel_rfl) (opInt Try.underlying3) (hval 3 23 v3 rfl rfl) h3
  refine (rowE (kotatsulaw01_HostNil.ok W (oldH W) [] a0 a1 (g1.1, a1.length, g1.2) a2 a3 (g3.1, a3.length, g3.2) R1 R3) (kotatsulaw01_HostNil.pure a0 w0 a1 w1 a2 w2 a3 w3)).mono fun e W' ⟨he, bel⟩ => ?_
  subst he
  exact ⟨_, rfl, _, _, _, [], _, [], hW', trodAll_mk1 (shut_bool Try.underlying4 _), (trodAll_cons_mk (back laidOut (by kernel_rfl) (by kernel_rfl) h0 bel) (trodAll_cons_mk (back laidOut (by kernel_rfl) (by kernel_rfl) h1 bel) (trodAll_cons_mk (back laidOut (by kernel_rfl) (by kernel_rfl) h2 bel) (trodAll_cons_mk (back laidOut (by kernel_rfl) (by kernel_rfl) h3 bel) trodAll_mk0)))), rfl, bel.frame _, fun h => by cases h⟩
theorem over : Rows.hostNilRow.holds Try.pinned (OpenSpec.ofChange Rows.hostNilSpec) :=
  OpenClaim.holds_of_wide 7 Try.f7 rfl rfl rfl rfl rfl rfl rfl ⟨rfl, rfl, rfl, rfl, rfl⟩ rfl rfl rfl rfl rfl (by kernel_rfl) Try.func7 (by kernel_rfl)
    (of_decide_eq_true (by kernel_rfl)) (by unfold Func.isWrapper; first | (rw [if_pos (by decide +kernel)]; kernel_rfl) | (rw [if_neg (by decide +kernel)]; exact ⟨rfl, rfl⟩))
    (fun os started H enc _ => lifted os started H enc)
end Go.Proofs.Ytgfjecngfmachaa.hostNil
namespace Go.Proofs.Ytgfjecngfmachaa
theorem hostNil_holds : Rows.HostNilSaid := hostNil.over
#print axioms hostNil_holds
end Go.Proofs.Ytgfjecngfmachaa
