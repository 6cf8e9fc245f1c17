/- The statement ShelfHolds is proved for every input, with no condition: the call returns true, and what came in reads as before. -/
import Derived.Test.YtpajmahpphcbaaaGreatDoorTie
import Derived.Test.YtpajmahpphcbaaaGreatDoorCards
import Derived.Test.YtpajmahpphcbaaaGreatDoorBase26
import Derived.SevenTiedAt
import Derived.Test.YtpajmahpphcbaaaGreatDoorShHolds
namespace Go.Proofs.YtpajmahpphcbaaaGreatDoor.shelfHolds
open Kot Go Go.ChangeShapes Go.WideShapes Go.ChangeAt Go.RowKit
set_option linter.unusedVariables false
set_option maxRecDepth 100000
theorem own : ownKnob Tryz.prog.godebug = none := by kernel_rfl
theorem laidOut : laidOutB Tryz.prog = true := by kernel_rfl
theorem Qa.op32 (w : World) : RdT Tryz.prog w 32 Qa.R Qa.W := fun H enc held fuel cs x h => by
  have hl := opLen Tryz.underlying32 h
  obtain ⟨a0, r0, w0⟩ := opFld Tryz.underlying32 h 0 rfl (opInt Tryz.underlying5)
  obtain ⟨a1, r1, w1⟩ := opFld Tryz.underlying32 h 1 rfl (opInt Tryz.underlying5)
  obtain ⟨a2, r2, w2⟩ := opFld Tryz.underlying32 h 2 rfl (opInt Tryz.underlying5)
  obtain ⟨a3, ⟨g3, r3, R3⟩, w3⟩ := opFld Tryz.underlying32 h 3 rfl (opSlice Tryz.underlying22 (by kernel_rfl) (opInt Tryz.underlying5))
  obtain ⟨a4, r4, w4⟩ := opFld Tryz.underlying32 h 4 rfl (opInt Tryz.underlying3)
  obtain ⟨a5, ⟨g5, r5, R5⟩, w5⟩ := opFld Tryz.underlying32 h 5 rfl (opSlice Tryz.underlying24 (by kernel_rfl) (opInt Tryz.underlying3))
  rw [show Tryz.prog.cellsOf 32 = 6 by kernel_rfl] at hl
  have e6 : cs.drop 6 = [] := spl0 hl
  have e5 : cs.drop 5 = [sv g5 a5.length] ++ [] := spl r5 (by kernel_rfl) e6
  have e4 : cs.drop 4 = (vi .i64) a4 ++ ([sv g5 a5.length] ++ []) := spl r4 (by kernel_rfl) e5
  have e3 : cs.drop 3 = [sv g3 a3.length] ++ ((vi .i64) a4 ++ ([sv g5 a5.length] ++ [])) := spl r3 (by kernel_rfl) e4
  have e2 : cs.drop 2 = (vi .u8) a2 ++ ([sv g3 a3.length] ++ ((vi .i64) a4 ++ ([sv g5 a5.length] ++ []))) := spl r2 (by kernel_rfl) e3
  have e1 : cs.drop 1 = (vi .u8) a1 ++ ((vi .u8) a2 ++ ([sv g3 a3.length] ++ ((vi .i64) a4 ++ ([sv g5 a5.length] ++ [])))) := spl r1 (by kernel_rfl) e2
  have e0 : cs.drop 0 = (vi .u8) a0 ++ ((vi .u8) a1 ++ ((vi .u8) a2 ++ ([sv g3 a3.length] ++ ((vi .i64) a4 ++ ([sv g5 a5.length] ++ []))))) := spl r0 (by kernel_rfl) e1
  exact ⟨⟨a0, a1, a2, a3, a4, a5⟩, ⟨((g3.1, a3.length, g3.2), (g5.1, a5.length, g5.2)), e0, R3, R5⟩, ⟨w0, w1, w2, w3, w4, w5⟩⟩
theorem lifted (os : Os) (started : os.Started) (H : Type) (enc : TypeId × Value → H) :
    ReturnsInHanded {} Tryz.checked os 6 .any (fun w args => (Rows.shelfHoldsSpec.pre enc Tryz.prog Tryz.f6 [] false w args ∧ laidMetH Tryz.prog Rows.shelfHoldsRow.laid w) ∧ sizedMet enc Tryz.prog Tryz.f6 (OpenSpec.ofChange Rows.shelfHoldsSpec) false w args) (Rows.shelfHoldsSpec.post enc Tryz.prog Tryz.f6 false true false false) := by
  refine returnsInHanded_of_change_and (C := Tryz.checked) (X := fun w _ => laidMetH Tryz.prog Rows.shelfHoldsRow.laid w) (fun _ _ _ hh h => h.of_heap hh) own started (by kernel_rfl) Tryz.func6
    (ChangeSpec.witness_shaped (enc := enc) (C := Tryz.checked) (os := os) (X := fun w _ => laidMetH Tryz.prog Rows.shelfHoldsRow.laid w) false (hdLaid Tryz.prog os 0 215 134 [("math/bits.deBruijn32tab", Rows.laid_math_bits_deBruijn32tab), ("math/bits.deBruijn64tab", Rows.laid_math_bits_deBruijn64tab), ("internal/strconv.uint64pow10", Rows.laid_internal_strconv_uint64pow10)]) #[.slice none 0 0, .int .u16 0, .slice none 0 0] 8 (hdLaid_os _ _ _ _ _ _)
      (World.shaped_of_ZipB (by kernel_rfl) (by kernel_rfl)) (by kernel_rfl) (by kernel_rfl) (by kernel_rfl)
      (laidMetH_of_parts (l := Rows.shelfHoldsRow.laid) (show laidMet Tryz.prog [("math/bits.deBruijn32tab", Rows.laid_math_bits_deBruijn32tab), ("math/bits.deBruijn64tab", Rows.laid_math_bits_deBruijn64tab), ("internal/strconv.uint64pow10", Rows.laid_internal_strconv_uint64pow10)] _ from laidMet_hdLaid _ (by kernel_rfl) (by kernel_rfl)) (by kernel_rfl))) ?_
  intro W base args ds gs before hval0 hW _ _ hLL _
  have hHH : laidMet Tryz.prog [("math/bits.deBruijn32tab", Rows.laid_math_bits_deBruijn32tab), ("math/bits.deBruijn64tab", Rows.laid_math_bits_deBruijn64tab), ("internal/strconv.uint64pow10", Rows.laid_internal_strconv_uint64pow10)] W ∧ handlesMet Tryz.prog [("errors.errorType", Rows.laid_errors_errorType)] W := hLL
  obtain ⟨hL, hHd⟩ := hHH
  have hT0 := hd_of_laid (g := 0) (u := 215) (ty := 134) (N := 265) (k := 5) hHd rfl rfl (by kernel_rfl) (by kernel_rfl) (by kernel_rfl) (by kernel_rfl) (by kernel_rfl)
  have hval : ∀ (j : Nat) t v, Tryz.f6.params[j]? = some t → args[j]? = some v → Value.okWide Tryz.prog W .any base t v := hval0
  have hW' := hW
  obtain ⟨p, q, hA0, hV, rfl, hfz, hnd⟩ := hW
  have hA : DataW.TrodAll enc Tryz.prog W 0 (fun _ => true) true Tryz.f6.params.toList args.toList ds p := hA0
  rw [Tryz.params6] at hA hval
  obtain ⟨v0, vs0, d0, ds0, p0, q0, hargs, rfl, rfl, h0, r0⟩ := trodAll_cons hA
  obtain ⟨v1, vs1, d1, ds1, p1, q1, rfl, rfl, rfl, h1, r1⟩ := trodAll_cons r0
  obtain ⟨v2, vs2, d2, ds2, p2, q2, rfl, rfl, rfl, h2, r2⟩ := trodAll_cons r1
  obtain ⟨rfl, rfl, rfl⟩ := trodAll_nil r2
  obtain rfl : args = #[v0, v1, v2] := by cases args; simp_all
  obtain ⟨rfl, rfl⟩ := trodVars_none hV
  obtain ⟨a0, g0, rfl, R0, w0⟩ := argSlice Tryz.underlying22 (by kernel_rfl) (opInt Tryz.underlying5) (hval 0 22 v0 rfl rfl) h0
  obtain ⟨a1, rfl, w1⟩ := argInt Tryz.underlying30 (hval 1 30 v1 rfl rfl) h1
  obtain ⟨a2, g2, rfl, R2, w2⟩ := argSlice Tryz.underlying23 (by kernel_rfl) (Qa.op32 W) (hval 2 23 v2 rfl rfl) h2
  have hG2 : GT (oldH W) 2 (vi .u64) tab2 := gt_of_reads (Lib.laidMet.reads hL (.tail _ (.tail _ (.head _)))) (by kernel_rfl) (by kernel_rfl) Tryz.underlying231 Tryz.underlying127 (by kernel_rfl) (by kernel_rfl)
  have hG4 : GT (oldH W) 4 (vi .u8) tab4 := gt_of_reads (Lib.laidMet.reads hL (.tail _ (.head _))) (by kernel_rfl) (by kernel_rfl) Tryz.underlying237 Tryz.underlying5 (by kernel_rfl) (by kernel_rfl)
  refine (rowE (Q4.ok W (oldH W) [] a0 (g0.1, a0.length, g0.2) a1 a2 (g2.1, a2.length, g2.2) R0 R2 hT0 hG2 hG4) (Q4.pure a0 w0 a1 w1 a2 w2)).mono fun e W' ⟨he, bel⟩ => ?_
  subst he
  exact ⟨_, rfl, _, _, _, [], _, [], hW', trodAll_mk1 (shut_bool Tryz.underlying4 _), (trodAll_cons_mk (back laidOut (by kernel_rfl) (by kernel_rfl) h0 bel) (trodAll_cons_mk (back laidOut (by kernel_rfl) (by kernel_rfl) h1 bel) (trodAll_cons_mk (back laidOut (by kernel_rfl) (by kernel_rfl) h2 bel) trodAll_mk0))), rfl, bel.frame _, fun h => by cases h⟩
theorem over : Rows.shelfHoldsRow.holds Tryz.pinned (OpenSpec.ofChange Rows.shelfHoldsSpec) :=
  OpenClaim.holds_of_wide 6 Tryz.f6 rfl rfl rfl rfl rfl rfl rfl ⟨rfl, rfl, rfl, rfl, rfl⟩ rfl rfl rfl rfl rfl (by kernel_rfl) Tryz.func6 (by kernel_rfl)
    (of_decide_eq_true (by kernel_rfl)) (by unfold Func.isWrapper; first | (rw [if_pos (by decide +kernel)]; kernel_rfl) | (rw [if_neg (by decide +kernel)]; exact ⟨rfl, rfl⟩))
    (fun os started H enc _ => lifted os started H enc)
end Go.Proofs.YtpajmahpphcbaaaGreatDoor.shelfHolds
namespace Go.Proofs.YtpajmahpphcbaaaGreatDoor
theorem shelfHolds_holds : Rows.ShelfHoldsCardSaid :=
  Claim7.holds_tied_plain_at .later [] [.data, .data, .data, .handle] true (true, "822627f112bb56eb928b37af3c2acbc02f38f17c04da963ad9b392f6147ca1ba") true
    shelfHolds.over (fun _ h => by cases h) (by kernel_rfl) (fun _ h => by cases h) shelfHolds_row_tie rfl ⟨rfl, rfl⟩ (by kernel_rfl) rfl
    (fun f fn hf hfn => by
      obtain rfl : f = 6 := Option.some.inj ((show Tryz.prog.funcNamed "kotatsu/kotatsulaw04.ShelfHolds" = some 6 by kernel_rfl).symm.trans hf) |>.symm
      obtain rfl : fn = Tryz.f6 := (Option.some.inj (Tryz.func6.symm.trans hfn)).symm
      exact ⟨by kernel_rfl, fun j t ht => by
        rw [Tryz.params6] at ht
        have hm : t ∈ [22, 30, 23] := by simpa using Array.mem_of_getElem? ht
        have hall : ([22, 30, 23].all fun u => !Tryz.prog.wantsStandIn u) = true := by kernel_rfl
        exact (show Tryz.prog.wantsStandIn t = false by simpa using List.all_eq_true.1 hall t hm)⟩)
    (by kernel_rfl)
#print axioms shelfHolds_holds
end Go.Proofs.YtpajmahpphcbaaaGreatDoor
