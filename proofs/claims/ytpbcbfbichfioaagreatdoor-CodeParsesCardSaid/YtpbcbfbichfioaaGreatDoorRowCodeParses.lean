/- The statement CodeParses is proved for every input, with no condition: the call returns true, and what came in reads as before. -/
import Derived.Test.YtpbcbfbichfioaaGreatDoorTie
import Derived.Test.YtpbcbfbichfioaaGreatDoorCards
import Derived.Test.YtpbcbfbichfioaaGreatDoorBase11
import Derived.SevenTiedAt
import Derived.Test.YtpbcbfbichfioaaGreatDoorParseEnd
namespace Go.Proofs.YtpbcbfbichfioaaGreatDoor.codeParses
open Kot Go Go.ChangeShapes Go.WideShapes Go.ChangeAt Go.RowKit
set_option linter.unusedVariables false
set_option maxRecDepth 100000
theorem own : ownKnob Tryz.prog.godebug = none := by kernel_rfl
theorem laidOut : laidOutB Tryz.prog = true := by kernel_rfl
theorem star : "*" ++ "errors.errorString" = "*errors.errorString" := by decide
theorem rowErr (u : TypeId) (h : Tryz.prog.typeName? 3 u = some "*errors.errorString") : u = 132 :=
  typeName_ptr_named (nm := "errors.errorString") (by rw [star]; kernel_rfl) (by kernel_rfl) (by decide) u (by rw [star]; exact h)
theorem lifted (os : Os) (started : os.Started) (H : Type) (enc : TypeId × Value → H) :
    ReturnsInHanded {} Tryz.checked os 3 .any (fun w args => (Rows.codeParsesSpec.pre enc Tryz.prog Tryz.f3 [] false w args ∧ laidMetH Tryz.prog Rows.codeParsesRow.laid w) ∧ sizedMet enc Tryz.prog Tryz.f3 (OpenSpec.ofChange Rows.codeParsesSpec) false w args) (Rows.codeParsesSpec.post enc Tryz.prog Tryz.f3 false true false false) := by
  refine returnsInHanded_of_change_and (C := Tryz.checked) (X := fun w _ => laidMetH Tryz.prog Rows.codeParsesRow.laid w) (fun _ _ _ hh h => h.of_heap hh) own started (by kernel_rfl) Tryz.func3
    (ChangeSpec.witness_shaped (enc := enc) (C := Tryz.checked) (os := os) (X := fun w _ => laidMetH Tryz.prog Rows.codeParsesRow.laid w) false (World.laidAll Tryz.prog os Rows.codeParsesRow.laid) #[.string ByteArray.empty, .int .u16 0] 8 (World.laidAll_os _ _ _)
      (World.shaped_of_ZipB (by kernel_rfl) (by kernel_rfl)) (by kernel_rfl) (by kernel_rfl) (by kernel_rfl)
      (by rw [MakeChecks.laidMetH_plain _ _ _ (by kernel_rfl)]; exact laidMet_laidAll _ (by kernel_rfl) (by kernel_rfl))) ?_
  intro W base args ds gs before hval0 hW _ _ hL _
  rw [MakeChecks.laidMetH_plain _ _ _ (by kernel_rfl)] at hL
  have hval : ∀ (j : Nat) t v, Tryz.f3.params[j]? = some t → args[j]? = some v → Value.okWide Tryz.prog W .any base t v := hval0
  have hW' := hW
  obtain ⟨p, q, hA0, hV, rfl, hfz, hnd⟩ := hW
  have hA : DataW.TrodAll enc Tryz.prog W 0 (fun _ => true) true Tryz.f3.params.toList args.toList ds p := hA0
  rw [Tryz.params3] at hA hval
  obtain ⟨v0, vs0, d0, ds0, p0, q0, hargs, rfl, rfl, h0, r0⟩ := trodAll_cons hA
  obtain ⟨v1, vs1, d1, ds1, p1, q1, rfl, rfl, rfl, h1, r1⟩ := trodAll_cons r0
  obtain ⟨rfl, rfl, rfl⟩ := trodAll_nil r1
  obtain rfl : args = #[v0, v1] := by cases args; simp_all
  obtain ⟨rfl, rfl⟩ := trodVars_none hV
  obtain ⟨a0, rfl, w0⟩ := argStr Tryz.underlying9 (hval 0 9 v0 rfl rfl) h0
  obtain ⟨a1, rfl, w1⟩ := argInt Tryz.underlying22 (hval 1 22 v1 rfl rfl) h1
  have hG4 : GT (oldH W) 4 (vi .u64) tab4 := gt_of_reads (Lib.laidMet.reads hL (.tail _ (.tail _ (.head _)))) (by kernel_rfl) (by kernel_rfl) Tryz.underlying128 Tryz.underlying59 (by kernel_rfl) (by kernel_rfl)
  have hG8 : GT (oldH W) 8 (vi .u8) tab8 := gt_of_reads (Lib.laidMet.reads hL (.tail _ (.head _))) (by kernel_rfl) (by kernel_rfl) Tryz.underlying149 Tryz.underlying5 (by kernel_rfl) (by kernel_rfl)
  obtain ⟨eG1, hE1⟩ := er_of_laid hL.tail.tail.tail.tail.tail (by kernel_rfl) (by kernel_rfl) Tryz.underlying61 rowErr Tryz.underlying132 Tryz.underlying134 rfl rfl Tryz.underlying9 (by kernel_rfl) (by kernel_rfl)
  obtain ⟨eG2, hE2⟩ := er_of_laid hL.tail.tail.tail.tail (by kernel_rfl) (by kernel_rfl) Tryz.underlying61 rowErr Tryz.underlying132 Tryz.underlying134 rfl rfl Tryz.underlying9 (by kernel_rfl) (by kernel_rfl)
  refine (rowE (kotatsulaw09_CodeParses.ok W (oldH W) [] a0 a1 eG1 eG2 hE1 hE2 hG4 hG8) (kotatsulaw09_CodeParses.pure a0 w0 a1 w1)).mono fun e W' ⟨he, bel⟩ => ?_
  subst he
  exact ⟨_, rfl, _, _, _, [], _, [], hW', trodAll_mk1 (shut_bool Tryz.underlying4 _), (trodAll_cons_mk (back laidOut (by kernel_rfl) (by kernel_rfl) h0 bel) (trodAll_cons_mk (back laidOut (by kernel_rfl) (by kernel_rfl) h1 bel) trodAll_mk0)), rfl, bel.frame _, fun h => by cases h⟩
theorem over : Rows.codeParsesRow.holds Tryz.pinned (OpenSpec.ofChange Rows.codeParsesSpec) :=
  OpenClaim.holds_of_wide 3 Tryz.f3 rfl rfl rfl rfl rfl rfl rfl ⟨rfl, rfl, rfl, rfl, rfl⟩ rfl rfl rfl rfl rfl (by kernel_rfl) Tryz.func3 (by kernel_rfl)
    (of_decide_eq_true (by kernel_rfl)) (by unfold Func.isWrapper; first | (rw [if_pos (by decide +kernel)]; kernel_rfl) | (rw [if_neg (by decide +kernel)]; exact ⟨rfl, rfl⟩))
    (fun os started H enc _ => lifted os started H enc)
end Go.Proofs.YtpbcbfbichfioaaGreatDoor.codeParses
namespace Go.Proofs.YtpbcbfbichfioaaGreatDoor
theorem codeParses_holds : Rows.CodeParsesCardSaid :=
  Claim7.holds_tied_plain_at .later [] [.data, .data, .data, .data, .sentinel, .sentinel, .pinned, .pinned] true (true, "a4ac23a85aa4bbc2250329157d15a0fec01abf09387bbc26d97a329dc5841793") true
    codeParses.over (fun _ h => by cases h) (by kernel_rfl) (fun _ h => by cases h) codeParses_row_tie rfl ⟨rfl, rfl⟩ (by kernel_rfl) rfl
    (fun f fn hf hfn => by
      obtain rfl : f = 3 := Option.some.inj ((show Tryz.prog.funcNamed "kotatsu/kotatsulaw09.CodeParses" = some 3 by kernel_rfl).symm.trans hf) |>.symm
      obtain rfl : fn = Tryz.f3 := (Option.some.inj (Tryz.func3.symm.trans hfn)).symm
      exact ⟨by kernel_rfl, fun j t ht => by
        rw [Tryz.params3] at ht
        have hm : t ∈ [9, 22] := by simpa using Array.mem_of_getElem? ht
        have hall : ([9, 22].all fun u => !Tryz.prog.wantsStandIn u) = true := by kernel_rfl
        exact (show Tryz.prog.wantsStandIn t = false by simpa using List.all_eq_true.1 hall t hm)⟩)
    (by kernel_rfl)
#print axioms codeParses_holds
end Go.Proofs.YtpbcbfbichfioaaGreatDoor
