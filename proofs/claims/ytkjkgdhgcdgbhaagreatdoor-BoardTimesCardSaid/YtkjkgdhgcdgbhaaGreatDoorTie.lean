/-
  DERIVED. GIVEN WITH THE SEED: THE PROGRAM's TIES (one call each: nine closed facts by the kernel) AND EACH ROW's TIE, after the 31st guide's Derived/Test/Toyas{Tie, Card}.lean. No idea stands in it: it is a product of the set-up. Laid BY PROGRAM, IN A SANDBOX (cutbox-door.mjs). By AI agents, Wed Nov 11 2026. No macro, syntax, notation, axiom, sorry.
-/
import Derived.Test.YtkjkgdhgcdgbhaaGreatDoorRows
import Derived.LaidByTextLater
import Derived.SevenTiedAt
import Derived.LaidSub
import Derived.LaidOnce
namespace Go.Proofs.YtkjkgdhgcdgbhaaGreatDoor
open Go
set_option maxRecDepth 100000
theorem seatTie1 : Tryz.prog.laidByTextLater [("kotatsu/tone.lengths", Rows.laid_kotatsu_tone_lengths), ("kotatsu/tone.noises", Rows.laid_kotatsu_tone_noises), ("kotatsu/tone.duties", Rows.laid_kotatsu_tone_duties), ("kotatsu/sound.rates", Rows.laid_kotatsu_sound_rates), ("kotatsu/sound.when", Rows.laid_kotatsu_sound_when), ("kotatsu/wave.turns", Rows.laid_kotatsu_wave_turns), ("kotatsu/wave.masters", Rows.laid_kotatsu_wave_masters)] [.data, .data, .data, .data, .data, .data, .data] true :=
  Program.laidByTextLater_by_one 46 8 33 (by kernel_rfl) (by kernel_rfl) (by kernel_rfl) (by kernel_rfl) (by kernel_rfl) (by kernel_rfl) (fun _ _ => by kernel_rfl)
theorem noOwnUnsafe : Tryz.pinned.checked.prog.headLifts.contains "ownunsafe" = false := by kernel_rfl
theorem tie : Tryz.prog.laidByTextLater [("kotatsu/tone.lengths", Rows.laid_kotatsu_tone_lengths), ("kotatsu/tone.noises", Rows.laid_kotatsu_tone_noises), ("kotatsu/sound.rates", Rows.laid_kotatsu_sound_rates), ("kotatsu/sound.when", Rows.laid_kotatsu_sound_when), ("kotatsu/wave.turns", Rows.laid_kotatsu_wave_turns), ("kotatsu/wave.masters", Rows.laid_kotatsu_wave_masters)] [.data, .data, .data, .data, .data, .data] true :=
  Program.laidByTextLater.sub seatTie1 ["kotatsu/tone.lengths", "kotatsu/tone.noises", "kotatsu/sound.rates", "kotatsu/sound.when", "kotatsu/wave.turns", "kotatsu/wave.masters"] (by kernel_rfl) (by kernel_rfl)
theorem boardSprites_row_tie : Rows.boardSpritesRow.laidByTextAt .later Tryz.pinned [.data, .data, .data, .data, .data, .data] true :=
  OpenClaim.laidByTextAt_later rfl rfl tie noOwnUnsafe
theorem boardCalls_row_tie : Rows.boardCallsRow.laidByTextAt .later Tryz.pinned [.data, .data, .data, .data, .data, .data] true :=
  OpenClaim.laidByTextAt_later rfl rfl tie noOwnUnsafe
theorem boardTimes_row_tie : Rows.boardTimesRow.laidByTextAt .later Tryz.pinned [.data, .data, .data, .data, .data, .data] true :=
  OpenClaim.laidByTextAt_later rfl rfl tie noOwnUnsafe
theorem tie2 : Tryz.prog.laidByTextLater [("kotatsu/tone.lengths", Rows.laid_kotatsu_tone_lengths), ("kotatsu/tone.noises", Rows.laid_kotatsu_tone_noises), ("kotatsu/tone.duties", Rows.laid_kotatsu_tone_duties), ("kotatsu/sound.rates", Rows.laid_kotatsu_sound_rates), ("kotatsu/sound.when", Rows.laid_kotatsu_sound_when), ("kotatsu/wave.turns", Rows.laid_kotatsu_wave_turns), ("kotatsu/wave.masters", Rows.laid_kotatsu_wave_masters)] [.data, .data, .data, .data, .data, .data, .data] true :=
  Program.laidByTextLater.sub seatTie1 ["kotatsu/tone.lengths", "kotatsu/tone.noises", "kotatsu/tone.duties", "kotatsu/sound.rates", "kotatsu/sound.when", "kotatsu/wave.turns", "kotatsu/wave.masters"] (by kernel_rfl) (by kernel_rfl)
theorem boardRuns_row_tie : Rows.boardRunsRow.laidByTextAt .later Tryz.pinned [.data, .data, .data, .data, .data, .data, .data] true :=
  OpenClaim.laidByTextAt_later rfl rfl tie2 noOwnUnsafe
theorem boardBus_row_tie : Rows.boardBusRow.laidByTextAt .later Tryz.pinned [.data, .data, .data, .data, .data, .data, .data] true :=
  OpenClaim.laidByTextAt_later rfl rfl tie2 noOwnUnsafe
theorem boardFreezes_row_tie : Rows.boardFreezesRow.laidByTextAt .later Tryz.pinned [.data, .data, .data, .data, .data, .data, .data] true :=
  OpenClaim.laidByTextAt_later rfl rfl tie2 noOwnUnsafe
theorem boardResets_row_tie : Rows.boardResetsRow.laidByTextAt .later Tryz.pinned [.data, .data, .data, .data, .data, .data, .data] true :=
  OpenClaim.laidByTextAt_later rfl rfl tie2 noOwnUnsafe
theorem boardPlays_row_tie : Rows.boardPlaysRow.laidByTextAt .later Tryz.pinned [.data, .data, .data, .data, .data, .data, .data] true :=
  OpenClaim.laidByTextAt_later rfl rfl tie2 noOwnUnsafe
theorem boardRefuses_row_tie : Rows.boardRefusesRow.laidByTextAt .later Tryz.pinned [.data, .data, .data, .data, .data, .data, .data] true :=
  OpenClaim.laidByTextAt_later rfl rfl tie2 noOwnUnsafe
theorem boardSpritesUpto_row_tie : Rows.boardSpritesUptoRow.laidByTextAt .later Tryz.pinned [.data, .data, .data, .data, .data, .data] true :=
  OpenClaim.laidByTextAt_later rfl rfl tie noOwnUnsafe
theorem boardCallsUpto_row_tie : Rows.boardCallsUptoRow.laidByTextAt .later Tryz.pinned [.data, .data, .data, .data, .data, .data] true :=
  OpenClaim.laidByTextAt_later rfl rfl tie noOwnUnsafe
theorem boardTimesUpto_row_tie : Rows.boardTimesUptoRow.laidByTextAt .later Tryz.pinned [.data, .data, .data, .data, .data, .data] true :=
  OpenClaim.laidByTextAt_later rfl rfl tie noOwnUnsafe
theorem boardRunsUpto_row_tie : Rows.boardRunsUptoRow.laidByTextAt .later Tryz.pinned [.data, .data, .data, .data, .data, .data, .data] true :=
  OpenClaim.laidByTextAt_later rfl rfl tie2 noOwnUnsafe
theorem boardBusUpto_row_tie : Rows.boardBusUptoRow.laidByTextAt .later Tryz.pinned [.data, .data, .data, .data, .data, .data, .data] true :=
  OpenClaim.laidByTextAt_later rfl rfl tie2 noOwnUnsafe
theorem boardFreezesUpto_row_tie : Rows.boardFreezesUptoRow.laidByTextAt .later Tryz.pinned [.data, .data, .data, .data, .data, .data, .data] true :=
  OpenClaim.laidByTextAt_later rfl rfl tie2 noOwnUnsafe
theorem boardResetsUpto_row_tie : Rows.boardResetsUptoRow.laidByTextAt .later Tryz.pinned [.data, .data, .data, .data, .data, .data, .data] true :=
  OpenClaim.laidByTextAt_later rfl rfl tie2 noOwnUnsafe
theorem boardPlaysUpto_row_tie : Rows.boardPlaysUptoRow.laidByTextAt .later Tryz.pinned [.data, .data, .data, .data, .data, .data, .data] true :=
  OpenClaim.laidByTextAt_later rfl rfl tie2 noOwnUnsafe
theorem boardRefusesUpto_row_tie : Rows.boardRefusesUptoRow.laidByTextAt .later Tryz.pinned [.data, .data, .data, .data, .data, .data, .data] true :=
  OpenClaim.laidByTextAt_later rfl rfl tie2 noOwnUnsafe
end Go.Proofs.YtkjkgdhgcdgbhaaGreatDoor
