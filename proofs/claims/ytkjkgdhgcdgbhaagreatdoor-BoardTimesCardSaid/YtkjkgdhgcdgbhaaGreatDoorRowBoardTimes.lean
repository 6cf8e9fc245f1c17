/- The statement BoardTimes is proved for every input, with no condition: the call returns true, and what came in reads as before. -/
import Derived.Test.YtkjkgdhgcdgbhaaGreatDoorTie
import Derived.Test.YtkjkgdhgcdgbhaaGreatDoorCards
import Derived.Test.YtkjkgdhgcdgbhaaGreatDoorBase11
import Derived.SevenTiedAt
import Derived.Test.YtkjkgdhgcdgbhaaGreatDoorBoardTimesLaw
namespace Go.Proofs.YtkjkgdhgcdgbhaaGreatDoor.boardTimes
open Kot Go Go.ChangeShapes Go.WideShapes Go.ChangeAt Go.RowKit
set_option linter.unusedVariables false
set_option maxRecDepth 100000
theorem own : ownKnob Tryz.prog.godebug = none := by kernel_rfl
theorem laidOut : laidOutB Tryz.prog = true := by kernel_rfl
theorem lifted (os : Os) (started : os.Started) (H : Type) (enc : TypeId × Value → H) :
    ReturnsInHanded {} Tryz.checked os 5 .any (fun w args => (Rows.boardTimesSpec.pre enc Tryz.prog Tryz.f5 [] false w args ∧ laidMetH Tryz.prog Rows.boardTimesRow.laid w) ∧ sizedMet enc Tryz.prog Tryz.f5 (OpenSpec.ofChange Rows.boardTimesSpec) false w args) (Rows.boardTimesSpec.post enc Tryz.prog Tryz.f5 false true false false) := by
  refine returnsInHanded_of_change_and (C := Tryz.checked) (X := fun w _ => laidMetH Tryz.prog Rows.boardTimesRow.laid w) (fun _ _ _ hh h => h.of_heap hh) own started (by kernel_rfl) Tryz.func5
    (ChangeSpec.witness_shaped (enc := enc) (C := Tryz.checked) (os := os) (X := fun w _ => laidMetH Tryz.prog Rows.boardTimesRow.laid w) false (World.laidAll Tryz.prog os Rows.boardTimesRow.laid) #[.slice none 0 0, .slice none 0 0, .int .u16 0] 8 (World.laidAll_os _ _ _)
      (World.shaped_of_ZipB (by kernel_rfl) (by kernel_rfl)) (by kernel_rfl) (by kernel_rfl) (by kernel_rfl)
      (by rw [MakeChecks.laidMetH_plain _ _ _ (by kernel_rfl)]; exact laidMet_laidAll _ (by kernel_rfl) (by kernel_rfl))) ?_
  intro W base args ds gs before hval0 hW _ _ hL _
  rw [MakeChecks.laidMetH_plain _ _ _ (by kernel_rfl)] at hL
  have hval : ∀ (j : Nat) t v, Tryz.f5.params[j]? = some t → args[j]? = some v → Value.okWide Tryz.prog W .any base t v := hval0
  have hW' := hW
  obtain ⟨p, q, hA0, hV, rfl, hfz, hnd⟩ := hW
  have hA : DataW.TrodAll enc Tryz.prog W 0 (fun _ => true) true Tryz.f5.params.toList args.toList ds p := hA0
  rw [Tryz.params5] at hA hval
  obtain ⟨v0, vs0, d0, ds0, p0, q0, hargs, rfl, rfl, h0, r0⟩ := trodAll_cons hA
  obtain ⟨v1, vs1, d1, ds1, p1, q1, rfl, rfl, rfl, h1, r1⟩ := trodAll_cons r0
  obtain ⟨v2, vs2, d2, ds2, p2, q2, rfl, rfl, rfl, h2, r2⟩ := trodAll_cons r1
  obtain ⟨rfl, rfl, rfl⟩ := trodAll_nil r2
  obtain rfl : args = #[v0, v1, v2] := by cases args; simp_all
  obtain ⟨rfl, rfl⟩ := trodVars_none hV
  obtain ⟨a0, g0, rfl, R0, w0⟩ := VS Tryz.underlying22 (by kernel_rfl) (Zc Tryz.underlying5) (hval 0 22 v0 rfl rfl) h0
  obtain ⟨a1, g1, rfl, R1, w1⟩ := VS Tryz.underlying22 (by kernel_rfl) (Zc Tryz.underlying5) (hval 1 22 v1 rfl rfl) h1
  obtain ⟨a2, rfl, w2⟩ := Zi Tryz.underlying29 (hval 2 29 v2 rfl rfl) h2
  have hG0 : GT (Sm W) 0 (vi .i64) VP := VD (Uj := [[7457, 14913, 22371, 29829], [7457, 14913, 22371, 37281]]) (n := 2) (m := 4) (Lib.laidMet.reads hL (.tail _ (.tail _ (.tail _ (.head _))))) rfl (by kernel_rfl) (by kernel_rfl) Tryz.underlying247 Tryz.underlying193 Tryz.underlying3 (by kernel_rfl) (by kernel_rfl) (by kernel_rfl)
  have hG1 : GT (Sm W) 1 (vi .u16) WX := Ql (Lib.laidMet.reads hL (.tail _ (.tail _ (.head _)))) (by kernel_rfl) (by kernel_rfl) Tryz.underlying253 Tryz.underlying29 (by kernel_rfl) (by kernel_rfl)
  have hG3 : GT (Sm W) 3 (vi .i64) Vs := Ql (Lib.laidMet.reads hL (.tail _ (.tail _ (.tail _ (.tail _ (.tail _ (.head _))))))) (by kernel_rfl) (by kernel_rfl) Tryz.underlying193 Tryz.underlying3 (by kernel_rfl) (by kernel_rfl)
  have hG4 : GT (Sm W) 4 (vi .u16) Uo := Ql (Lib.laidMet.reads hL (.tail _ (.head _))) (by kernel_rfl) (by kernel_rfl) Tryz.underlying253 Tryz.underlying29 (by kernel_rfl) (by kernel_rfl)
  have hG5 : GT (Sm W) 5 (vi .i64) Wv := Ql (Lib.laidMet.reads hL (.tail _ (.tail _ (.tail _ (.tail _ (.head _)))))) (by kernel_rfl) (by kernel_rfl) Tryz.underlying303 Tryz.underlying3 (by kernel_rfl) (by kernel_rfl)
  have hG6 : GT (Sm W) 6 (vi .u8) Vt := Ql (Lib.laidMet.reads hL (.head _)) (by kernel_rfl) (by kernel_rfl) Tryz.underlying110 Tryz.underlying5 (by kernel_rfl) (by kernel_rfl)
  refine (AaB (@B9.ok W (Sm W) [] a0 (g0.1, a0.length, g0.2) a1 (g1.1, a1.length, g1.2) a2 R0 R1 hG0 hG1 hG3 hG4 hG5 hG6) (B9.pure a0 w0 a1 w1 a2 w2)).mono fun e W' ⟨he, bel⟩ => ?_
  subst he
  exact ⟨_, rfl, _, _, _, [], _, [], hW', trodAll_mk1 (shut_bool Tryz.underlying4 _), (trodAll_cons_mk (WA laidOut (by kernel_rfl) (by kernel_rfl) h0 bel) (trodAll_cons_mk (WA laidOut (by kernel_rfl) (by kernel_rfl) h1 bel) (trodAll_cons_mk (WA laidOut (by kernel_rfl) (by kernel_rfl) h2 bel) trodAll_mk0))), rfl, bel.frame _, fun h => by cases h⟩
theorem c1 : Tryz.prog.inPlace 5 = Rows.boardTimesRow.inPlace := by kernel_rfl
theorem c2 : Tryz.prog.unfollowed 5 = Rows.boardTimesRow.unfollowed := by kernel_rfl
theorem c3 : Tryz.prog.recurses 5 = Rows.boardTimesRow.recurses := by kernel_rfl
theorem c4 : Tryz.prog.varsNamed 5 = Rows.boardTimesRow.named := by kernel_rfl
theorem Zo : joinedFacts Tryz.prog 5 Tryz.f5 Rows.boardTimesSpec Rows.boardTimesRow = true := by
  unfold joinedFacts
  rw [c1, c2, c3, c4]
  kernel_rfl
theorem m1 : Rows.boardTimesRow.wfByText (OpenSpec.ofChange Rows.boardTimesSpec) = true := by kernel_rfl
theorem m2 : Tryz.pinned.checked.prog.mainIs = some ((true, "6e87f6fb6afdae42242715d84c549d0921369635598b5bae1b714905ba49b557").1, (true, "6e87f6fb6afdae42242715d84c549d0921369635598b5bae1b714905ba49b557").2.toList) := by kernel_rfl
theorem m3 : false = Tryz.pinned.checked.prog.looks [] := by kernel_rfl
theorem m4 : false = Rows.boardTimesRow.goesBy Tryz.pinned.checked.prog := by kernel_rfl
theorem over : Rows.boardTimesRow.holds Tryz.pinned (OpenSpec.ofChange Rows.boardTimesSpec) :=
  OpenClaim.holds_of_wide 5 Tryz.f5 rfl rfl rfl rfl rfl rfl rfl ⟨rfl, rfl, rfl, rfl, rfl⟩ rfl rfl rfl rfl rfl (by kernel_rfl) Tryz.func5 Zo
    (of_decide_eq_true (by kernel_rfl)) (by unfold Func.isWrapper; first | (rw [if_pos (by decide +kernel)]; kernel_rfl) | (rw [if_neg (by decide +kernel)]; exact ⟨rfl, rfl⟩))
    (fun os started H enc _ => lifted os started H enc)
end Go.Proofs.YtkjkgdhgcdgbhaaGreatDoor.boardTimes
namespace Go.Proofs.YtkjkgdhgcdgbhaaGreatDoor
theorem boardTimes_holds : Rows.BoardTimesCardSaid :=
  Claim7.holds_tied_plain_at .later [] [.data, .data, .data, .data, .data, .data] true (true, "6e87f6fb6afdae42242715d84c549d0921369635598b5bae1b714905ba49b557") false
    boardTimes.over (fun _ h => by cases h) boardTimes.m1 (fun _ h => by cases h) boardTimes_row_tie rfl ⟨rfl, rfl⟩ boardTimes.m2 rfl
    (fun f fn hf hfn => by
      obtain rfl : f = 5 := Option.some.inj ((show Tryz.prog.funcNamed "kotatsu/kotatsulaw19.BoardTimes" = some 5 by kernel_rfl).symm.trans hf) |>.symm
      obtain rfl : fn = Tryz.f5 := (Option.some.inj (Tryz.func5.symm.trans hfn)).symm
      exact ⟨boardTimes.m3, fun j t ht => by
        rw [Tryz.params5] at ht
        have hm : t ∈ [22, 22, 29] := by simpa using Array.mem_of_getElem? ht
        have hall : ([22, 22, 29].all fun u => !Tryz.prog.wantsStandIn u) = true := by kernel_rfl
        exact (show Tryz.prog.wantsStandIn t = false by simpa using List.all_eq_true.1 hall t hm)⟩)
    boardTimes.m4
#print axioms boardTimes_holds
end Go.Proofs.YtkjkgdhgcdgbhaaGreatDoor
