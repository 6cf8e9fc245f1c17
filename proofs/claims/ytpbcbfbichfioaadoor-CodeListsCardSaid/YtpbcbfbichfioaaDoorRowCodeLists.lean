/- The statement CodeLists is proved for every input, with no condition: the call returns true, and what came in reads as before. -/
import Derived.Test.YtpbcbfbichfioaaDoorTie
import Derived.Test.YtpbcbfbichfioaaDoorCards
import Derived.Test.YtpbcbfbichfioaaDoorBase11
import Derived.SevenTiedAt
import Derived.Test.YtpbcbfbichfioaaDoorBranchPure
namespace Go.Proofs.YtpbcbfbichfioaaDoor.codeLists
open Kot Go Go.ChangeShapes Go.WideShapes Go.ChangeAt Go.RowKit
set_option linter.unusedVariables false
set_option maxRecDepth 100000
theorem own : ownKnob Tryd.prog.godebug = none := by kernel_rfl
theorem laidOut : laidOutB Tryd.prog = true := by kernel_rfl
theorem star : "*" ++ "errors.errorString" = "*errors.errorString" := by decide
theorem rowErr (u : TypeId) (h : Tryd.prog.typeName? 3 u = some "*errors.errorString") : u = 150 :=
  typeName_ptr_named (nm := "errors.errorString") (by rw [star]; kernel_rfl) (by kernel_rfl) (by decide) u (by rw [star]; exact h)
theorem lifted (os : Os) (started : os.Started) (H : Type) (enc : TypeId × Value → H) :
    ReturnsInHanded {} Tryd.checked os 9 .any (fun w args => (Rows.codeListsSpec.pre enc Tryd.prog Tryd.f9 [] false w args ∧ laidMetH Tryd.prog Rows.codeListsRow.laid w) ∧ sizedMet enc Tryd.prog Tryd.f9 (OpenSpec.ofChange Rows.codeListsSpec) false w args) (Rows.codeListsSpec.post enc Tryd.prog Tryd.f9 false true false false) := by
  refine returnsInHanded_of_change_and (C := Tryd.checked) (X := fun w _ => laidMetH Tryd.prog Rows.codeListsRow.laid w) (fun _ _ _ hh h => h.of_heap hh) own started (by kernel_rfl) Tryd.func9
    (ChangeSpec.witness_shaped (enc := enc) (C := Tryd.checked) (os := os) (X := fun w _ => laidMetH Tryd.prog Rows.codeListsRow.laid w) false (World.laidAll Tryd.prog os Rows.codeListsRow.laid) #[.slice none 0 0, .int .u16 0] 8 (World.laidAll_os _ _ _)
      (World.shaped_of_ZipB (by kernel_rfl) (by kernel_rfl)) (by kernel_rfl) (by kernel_rfl) (by kernel_rfl)
      (by rw [MakeChecks.laidMetH_plain _ _ _ (by kernel_rfl)]; exact laidMet_laidAll _ (by kernel_rfl) (by kernel_rfl))) ?_
  intro W base args ds gs before hval0 hW _ _ hL _
  rw [MakeChecks.laidMetH_plain _ _ _ (by kernel_rfl)] at hL
  have hval : ∀ (j : Nat) t v, Tryd.f9.params[j]? = some t → args[j]? = some v → Value.okWide Tryd.prog W .any base t v := hval0
  have hW' := hW
  obtain ⟨p, q, hA0, hV, rfl, hfz, hnd⟩ := hW
  have hA : DataW.TrodAll enc Tryd.prog W 0 (fun _ => true) true Tryd.f9.params.toList args.toList ds p := hA0
  rw [Tryd.params9] at hA hval
  obtain ⟨v0, vs0, d0, ds0, p0, q0, hargs, rfl, rfl, h0, r0⟩ := trodAll_cons hA
  obtain ⟨v1, vs1, d1, ds1, p1, q1, rfl, rfl, rfl, h1, r1⟩ := trodAll_cons r0
  obtain ⟨rfl, rfl, rfl⟩ := trodAll_nil r1
  obtain rfl : args = #[v0, v1] := by cases args; simp_all
  obtain ⟨rfl, rfl⟩ := trodVars_none hV
  obtain ⟨a0, g0, rfl, R0, w0⟩ := argSlice Tryd.underlying37 (by kernel_rfl) (opInt Tryd.underlying5) (hval 0 37 v0 rfl rfl) h0
  obtain ⟨a1, rfl, w1⟩ := argInt Tryd.underlying38 (hval 1 38 v1 rfl rfl) h1
  have hG2 : GT (oldH W) 2 (vi .u64) tab2 := gt_of_reads (Lib.laidMet.reads hL (.tail _ (.tail _ (.head _)))) (by kernel_rfl) (by kernel_rfl) Tryd.underlying134 Tryd.underlying81 (by kernel_rfl) (by kernel_rfl)
  have hG8 : GT (oldH W) 8 (vi .u8) tab8 := gt_of_reads (Lib.laidMet.reads hL (.tail _ (.head _))) (by kernel_rfl) (by kernel_rfl) Tryd.underlying158 Tryd.underlying5 (by kernel_rfl) (by kernel_rfl)
  obtain ⟨eG3, hE3⟩ := er_of_laid hL.tail.tail.tail.tail.tail (by kernel_rfl) (by kernel_rfl) Tryd.underlying86 rowErr Tryd.underlying150 Tryd.underlying152 rfl rfl Tryd.underlying9 (by kernel_rfl) (by kernel_rfl)
  obtain ⟨eG4, hE4⟩ := er_of_laid hL.tail.tail.tail.tail (by kernel_rfl) (by kernel_rfl) Tryd.underlying86 rowErr Tryd.underlying150 Tryd.underlying152 rfl rfl Tryd.underlying9 (by kernel_rfl) (by kernel_rfl)
  refine (rowE (kotatsulaw09_CodeLists.ok W (oldH W) [] a0 (g0.1, a0.length, g0.2) a1 eG3 eG4 R0 hE3 hE4 hG2 hG8) (kotatsulaw09_CodeLists.pure a0 w0 a1 w1)).mono fun e W' ⟨he, bel⟩ => ?_
  subst he
  exact ⟨_, rfl, _, _, _, [], _, [], hW', trodAll_mk1 (shut_bool Tryd.underlying4 _), (trodAll_cons_mk (back laidOut (by kernel_rfl) (by kernel_rfl) h0 bel) (trodAll_cons_mk (back laidOut (by kernel_rfl) (by kernel_rfl) h1 bel) trodAll_mk0)), rfl, bel.frame _, fun h => by cases h⟩
theorem over : Rows.codeListsRow.holds Tryd.pinned (OpenSpec.ofChange Rows.codeListsSpec) :=
  OpenClaim.holds_of_wide 9 Tryd.f9 rfl rfl rfl rfl rfl rfl rfl ⟨rfl, rfl, rfl, rfl, rfl⟩ rfl rfl rfl rfl rfl (by kernel_rfl) Tryd.func9 (by kernel_rfl)
    (of_decide_eq_true (by kernel_rfl)) (by unfold Func.isWrapper; first | (rw [if_pos (by decide +kernel)]; kernel_rfl) | (rw [if_neg (by decide +kernel)]; exact ⟨rfl, rfl⟩))
    (fun os started H enc _ => lifted os started H enc)
end Go.Proofs.YtpbcbfbichfioaaDoor.codeLists
namespace Go.Proofs.YtpbcbfbichfioaaDoor
theorem codeLists_holds : Rows.CodeListsCardSaid :=
  Claim7.holds_tied_plain_at .later [] [.data, .data, .data, .data, .sentinel, .sentinel, .pinned, .pinned] true (true, "b857d90976d0441cad3ebbd02738e16917f9b19a889de893f1deb430d1d21f48") true
    codeLists.over (fun _ h => by cases h) (by kernel_rfl) (fun _ h => by cases h) codeLists_row_tie rfl ⟨rfl, rfl⟩ (by kernel_rfl) rfl
    (fun f fn hf hfn => by
      obtain rfl : f = 9 := Option.some.inj ((show Tryd.prog.funcNamed "kotatsu/kotatsulaw09.CodeLists" = some 9 by kernel_rfl).symm.trans hf) |>.symm
      obtain rfl : fn = Tryd.f9 := (Option.some.inj (Tryd.func9.symm.trans hfn)).symm
      exact ⟨by kernel_rfl, fun j t ht => by
        rw [Tryd.params9] at ht
        have hm : t ∈ [37, 38] := by simpa using Array.mem_of_getElem? ht
        have hall : ([37, 38].all fun u => !Tryd.prog.wantsStandIn u) = true := by kernel_rfl
        exact (show Tryd.prog.wantsStandIn t = false by simpa using List.all_eq_true.1 hall t hm)⟩)
    (by kernel_rfl)
#print axioms codeLists_holds
end Go.Proofs.YtpbcbfbichfioaaDoor
