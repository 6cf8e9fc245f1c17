/-
  NARROWER THAN 'FOR EVERY INPUT', by the rows' own cells (each row's printed sentence says how): BoardSprites: laid · BoardCalls: laid · BoardTimes: laid · BoardRuns: laid · BoardBus: laid · BoardFreezes: laid · BoardResets: laid · BoardPlays: laid · BoardRefuses: laid.
  DERIVED. THE GIVEN ROWS OF THIS SEAT. 9 by the template 'for every input the law returns true; each argument reads behind the call as it read before'; 0 by the template 'total and deterministic' (their statements: YtkjkgdhgcdgbhaaGreatDoorTotals.lean).
  GIVEN WITH THE SEED: the statements are not yours to turn. If you find one false, say at which input.
  Laid BY PROGRAM, IN A SANDBOX (cutbox-rows.mjs): the forced cells as the released guide's own fill.sh prints them over the translation a8938161fae23973… (all of the seat's roots in one cut). By AI agents, Wed Nov 11 2026. No macro, syntax, notation, axiom, sorry.
-/
import Derived.Test.YtkjkgdhgcdgbhaaGreatDoorChecked
import GoSem.Claim
import GoSem.ClaimJoined
import GoSem.ClaimMapViews
import Derived.JoinedTies
import Derived.KernelRfl
namespace Go.Proofs.YtkjkgdhgcdgbhaaGreatDoor
/- THE CELL 'sum', in the pinned program and in every row, IS THE sha256 OF THE DUMP (.gsa) THAT YtkjkgdhgcdgbhaaGreatDoorProg.lean LOADS. Nothing in Lean hashes anything: it is a label: what it is worth is what the hold of that sum in a sandbox is worth. -/
noncomputable def Tryz.pinned : Pinned := { name := "ytkjkgdhgcdgbhaagreatdoor", sum := "a8938161fae2397347bdcddc40a0bfe5f4c1766cee2129b76317c9f0ea7aafc3", checked := Tryz.checked }
namespace Rows
def none {H : Type} : Left H := { results := [], args := [] }

/- WHAT THE LISTED PACKAGE-LEVEL VARIABLES READ AS WHEN THE CALL BEGINS. Each datum BY PROGRAM (the guide's laid-datum.mjs) off the statement by which the dump's own 'gosem.cut.vars' lays the variable. In a bare row this is a premise. The card (YtkjkgdhgcdgbhaaGreatDoorCards.lean) ties it to the program's text. -/
def laid_kotatsu_tone_lengths {H : Type} : DataW H := .agg [.lit (.int .u8 10), .lit (.int .u8 254), .lit (.int .u8 20), .lit (.int .u8 2), .lit (.int .u8 40), .lit (.int .u8 4), .lit (.int .u8 80), .lit (.int .u8 6), .lit (.int .u8 160), .lit (.int .u8 8), .lit (.int .u8 60), .lit (.int .u8 10), .lit (.int .u8 14), .lit (.int .u8 12), .lit (.int .u8 26), .lit (.int .u8 14), .lit (.int .u8 12), .lit (.int .u8 16), .lit (.int .u8 24), .lit (.int .u8 18), .lit (.int .u8 48), .lit (.int .u8 20), .lit (.int .u8 96), .lit (.int .u8 22), .lit (.int .u8 192), .lit (.int .u8 24), .lit (.int .u8 72), .lit (.int .u8 26), .lit (.int .u8 16), .lit (.int .u8 28), .lit (.int .u8 32), .lit (.int .u8 30)]
def laid_kotatsu_tone_noises {H : Type} : DataW H := .agg [.lit (.int .u16 4), .lit (.int .u16 8), .lit (.int .u16 16), .lit (.int .u16 32), .lit (.int .u16 64), .lit (.int .u16 96), .lit (.int .u16 128), .lit (.int .u16 160), .lit (.int .u16 202), .lit (.int .u16 254), .lit (.int .u16 380), .lit (.int .u16 508), .lit (.int .u16 762), .lit (.int .u16 1016), .lit (.int .u16 2034), .lit (.int .u16 4068)]
def laid_kotatsu_sound_rates {H : Type} : DataW H := .agg [.lit (.int .u16 428), .lit (.int .u16 380), .lit (.int .u16 340), .lit (.int .u16 320), .lit (.int .u16 286), .lit (.int .u16 254), .lit (.int .u16 226), .lit (.int .u16 214), .lit (.int .u16 190), .lit (.int .u16 160), .lit (.int .u16 142), .lit (.int .u16 128), .lit (.int .u16 106), .lit (.int .u16 84), .lit (.int .u16 72), .lit (.int .u16 54)]
def laid_kotatsu_sound_when {H : Type} : DataW H := .agg [.agg [.lit (.int .i64 7457), .lit (.int .i64 14913), .lit (.int .i64 22371), .lit (.int .i64 29829)], .agg [.lit (.int .i64 7457), .lit (.int .i64 14913), .lit (.int .i64 22371), .lit (.int .i64 37281)]]
def laid_kotatsu_wave_turns {H : Type} : DataW H := .agg [.lit (.int .i64 0), .lit (.int .i64 1), .lit (.int .i64 2), .lit (.int .i64 4), .lit (.int .i64 0), .lit (.int .i64 (-4)), .lit (.int .i64 (-2)), .lit (.int .i64 (-1))]
def laid_kotatsu_wave_masters {H : Type} : DataW H := .agg [.lit (.int .i64 30), .lit (.int .i64 20), .lit (.int .i64 15), .lit (.int .i64 12)]
def laid_kotatsu_tone_duties {H : Type} : DataW H := .agg [.lit (.int .u8 64), .lit (.int .u8 96), .lit (.int .u8 120), .lit (.int .u8 159)]

/-- 'kotatsulaw19.BoardSprites': WHATEVER THE INPUT: true; the input reads as it did. -/
def boardSpritesSpec : ChangeSpec := { name := "boardSprites", fn := fun _ => fun
  | [d1, d2, d3] => { results := [.lit (.bool true)], args := [d1, d2, d3] }
  | _ => none }
def boardSpritesRow : OpenClaim := { program := "ytkjkgdhgcdgbhaagreatdoor", sum := "a8938161fae2397347bdcddc40a0bfe5f4c1766cee2129b76317c9f0ea7aafc3", func := "kotatsu/kotatsulaw19.BoardSprites", spec := "boardSprites", inPlace := ["internal/bytealg.IndexByteString"], unfollowed := true, recurses := true, named := ["kotatsu/tone.noises", "kotatsu/tone.lengths", "kotatsu/wave.masters", "kotatsu/sound.when", "kotatsu/sound.rates", "kotatsu/wave.turns"], apart := false, laid := [("kotatsu/tone.lengths", laid_kotatsu_tone_lengths), ("kotatsu/tone.noises", laid_kotatsu_tone_noises), ("kotatsu/sound.rates", laid_kotatsu_sound_rates), ("kotatsu/sound.when", laid_kotatsu_sound_when), ("kotatsu/wave.turns", laid_kotatsu_wave_turns), ("kotatsu/wave.masters", laid_kotatsu_wave_masters)] }
def BoardSpritesSaid : Prop := boardSpritesRow.holds Tryz.pinned (OpenSpec.ofChange boardSpritesSpec)

/-- ITS FALSE NEIGHBOUR: 'it returns false'. Refute it at one input. -/
def boardSpritesWrong : ChangeSpec := { name := "boardSprites", fn := fun _ => fun
  | [d1, d2, d3] => { results := [.lit (.bool false)], args := [d1, d2, d3] }
  | _ => none }
def BoardSpritesWrongFalsely : Prop := boardSpritesRow.holds Tryz.pinned (OpenSpec.ofChange boardSpritesWrong)

/-- 'kotatsulaw19.BoardCalls': WHATEVER THE INPUT: true; the input reads as it did. -/
def boardCallsSpec : ChangeSpec := { name := "boardCalls", fn := fun _ => fun
  | [d] => { results := [.lit (.bool true)], args := [d] }
  | _ => none }
def boardCallsRow : OpenClaim := { program := "ytkjkgdhgcdgbhaagreatdoor", sum := "a8938161fae2397347bdcddc40a0bfe5f4c1766cee2129b76317c9f0ea7aafc3", func := "kotatsu/kotatsulaw19.BoardCalls", spec := "boardCalls", inPlace := ["internal/bytealg.IndexByteString"], unfollowed := true, recurses := true, named := ["kotatsu/tone.noises", "kotatsu/tone.lengths", "kotatsu/wave.masters", "kotatsu/sound.when", "kotatsu/sound.rates", "kotatsu/wave.turns"], apart := false, laid := [("kotatsu/tone.lengths", laid_kotatsu_tone_lengths), ("kotatsu/tone.noises", laid_kotatsu_tone_noises), ("kotatsu/sound.rates", laid_kotatsu_sound_rates), ("kotatsu/sound.when", laid_kotatsu_sound_when), ("kotatsu/wave.turns", laid_kotatsu_wave_turns), ("kotatsu/wave.masters", laid_kotatsu_wave_masters)] }
def BoardCallsSaid : Prop := boardCallsRow.holds Tryz.pinned (OpenSpec.ofChange boardCallsSpec)

/-- ITS FALSE NEIGHBOUR: 'it returns false'. Refute it at one input. -/
def boardCallsWrong : ChangeSpec := { name := "boardCalls", fn := fun _ => fun
  | [d] => { results := [.lit (.bool false)], args := [d] }
  | _ => none }
def BoardCallsWrongFalsely : Prop := boardCallsRow.holds Tryz.pinned (OpenSpec.ofChange boardCallsWrong)

/-- 'kotatsulaw19.BoardTimes': WHATEVER THE INPUT: true; the input reads as it did. -/
def boardTimesSpec : ChangeSpec := { name := "boardTimes", fn := fun _ => fun
  | [d1, d2, d3] => { results := [.lit (.bool true)], args := [d1, d2, d3] }
  | _ => none }
def boardTimesRow : OpenClaim := { program := "ytkjkgdhgcdgbhaagreatdoor", sum := "a8938161fae2397347bdcddc40a0bfe5f4c1766cee2129b76317c9f0ea7aafc3", func := "kotatsu/kotatsulaw19.BoardTimes", spec := "boardTimes", inPlace := ["internal/bytealg.IndexByteString"], unfollowed := true, recurses := true, named := ["kotatsu/tone.noises", "kotatsu/tone.lengths", "kotatsu/wave.masters", "kotatsu/sound.when", "kotatsu/sound.rates", "kotatsu/wave.turns"], apart := false, laid := [("kotatsu/tone.lengths", laid_kotatsu_tone_lengths), ("kotatsu/tone.noises", laid_kotatsu_tone_noises), ("kotatsu/sound.rates", laid_kotatsu_sound_rates), ("kotatsu/sound.when", laid_kotatsu_sound_when), ("kotatsu/wave.turns", laid_kotatsu_wave_turns), ("kotatsu/wave.masters", laid_kotatsu_wave_masters)] }
def BoardTimesSaid : Prop := boardTimesRow.holds Tryz.pinned (OpenSpec.ofChange boardTimesSpec)

/-- ITS FALSE NEIGHBOUR: 'it returns false'. Refute it at one input. -/
def boardTimesWrong : ChangeSpec := { name := "boardTimes", fn := fun _ => fun
  | [d1, d2, d3] => { results := [.lit (.bool false)], args := [d1, d2, d3] }
  | _ => none }
def BoardTimesWrongFalsely : Prop := boardTimesRow.holds Tryz.pinned (OpenSpec.ofChange boardTimesWrong)

/-- 'kotatsulaw19.BoardRuns': WHATEVER THE INPUT: true; the input reads as it did. -/
def boardRunsSpec : ChangeSpec := { name := "boardRuns", fn := fun _ => fun
  | [d1, d2, d3, d4] => { results := [.lit (.bool true)], args := [d1, d2, d3, d4] }
  | _ => none }
def boardRunsRow : OpenClaim := { program := "ytkjkgdhgcdgbhaagreatdoor", sum := "a8938161fae2397347bdcddc40a0bfe5f4c1766cee2129b76317c9f0ea7aafc3", func := "kotatsu/kotatsulaw19.BoardRuns", spec := "boardRuns", inPlace := ["internal/bytealg.IndexByteString"], unfollowed := true, recurses := true, named := ["kotatsu/tone.noises", "kotatsu/tone.lengths", "kotatsu/wave.masters", "kotatsu/sound.when", "kotatsu/sound.rates", "kotatsu/wave.turns", "kotatsu/tone.duties"], apart := false, laid := [("kotatsu/tone.lengths", laid_kotatsu_tone_lengths), ("kotatsu/tone.noises", laid_kotatsu_tone_noises), ("kotatsu/tone.duties", laid_kotatsu_tone_duties), ("kotatsu/sound.rates", laid_kotatsu_sound_rates), ("kotatsu/sound.when", laid_kotatsu_sound_when), ("kotatsu/wave.turns", laid_kotatsu_wave_turns), ("kotatsu/wave.masters", laid_kotatsu_wave_masters)] }
def BoardRunsSaid : Prop := boardRunsRow.holds Tryz.pinned (OpenSpec.ofChange boardRunsSpec)

/-- ITS FALSE NEIGHBOUR: 'it returns false'. Refute it at one input. -/
def boardRunsWrong : ChangeSpec := { name := "boardRuns", fn := fun _ => fun
  | [d1, d2, d3, d4] => { results := [.lit (.bool false)], args := [d1, d2, d3, d4] }
  | _ => none }
def BoardRunsWrongFalsely : Prop := boardRunsRow.holds Tryz.pinned (OpenSpec.ofChange boardRunsWrong)

/-- 'kotatsulaw19.BoardBus': WHATEVER THE INPUT: true; the input reads as it did. -/
def boardBusSpec : ChangeSpec := { name := "boardBus", fn := fun _ => fun
  | [d1, d2, d3] => { results := [.lit (.bool true)], args := [d1, d2, d3] }
  | _ => none }
def boardBusRow : OpenClaim := { program := "ytkjkgdhgcdgbhaagreatdoor", sum := "a8938161fae2397347bdcddc40a0bfe5f4c1766cee2129b76317c9f0ea7aafc3", func := "kotatsu/kotatsulaw19.BoardBus", spec := "boardBus", inPlace := ["internal/bytealg.IndexByteString"], unfollowed := true, recurses := true, named := ["kotatsu/tone.noises", "kotatsu/tone.lengths", "kotatsu/wave.masters", "kotatsu/sound.when", "kotatsu/sound.rates", "kotatsu/wave.turns", "kotatsu/tone.duties"], apart := false, laid := [("kotatsu/tone.lengths", laid_kotatsu_tone_lengths), ("kotatsu/tone.noises", laid_kotatsu_tone_noises), ("kotatsu/tone.duties", laid_kotatsu_tone_duties), ("kotatsu/sound.rates", laid_kotatsu_sound_rates), ("kotatsu/sound.when", laid_kotatsu_sound_when), ("kotatsu/wave.turns", laid_kotatsu_wave_turns), ("kotatsu/wave.masters", laid_kotatsu_wave_masters)] }
def BoardBusSaid : Prop := boardBusRow.holds Tryz.pinned (OpenSpec.ofChange boardBusSpec)

/-- ITS FALSE NEIGHBOUR: 'it returns false'. Refute it at one input. -/
def boardBusWrong : ChangeSpec := { name := "boardBus", fn := fun _ => fun
  | [d1, d2, d3] => { results := [.lit (.bool false)], args := [d1, d2, d3] }
  | _ => none }
def BoardBusWrongFalsely : Prop := boardBusRow.holds Tryz.pinned (OpenSpec.ofChange boardBusWrong)

/-- 'kotatsulaw19.BoardFreezes': WHATEVER THE INPUT: true; the input reads as it did. -/
def boardFreezesSpec : ChangeSpec := { name := "boardFreezes", fn := fun _ => fun
  | [d1, d2, d3] => { results := [.lit (.bool true)], args := [d1, d2, d3] }
  | _ => none }
def boardFreezesRow : OpenClaim := { program := "ytkjkgdhgcdgbhaagreatdoor", sum := "a8938161fae2397347bdcddc40a0bfe5f4c1766cee2129b76317c9f0ea7aafc3", func := "kotatsu/kotatsulaw19.BoardFreezes", spec := "boardFreezes", inPlace := ["internal/bytealg.IndexByteString"], unfollowed := true, recurses := true, named := ["kotatsu/tone.noises", "kotatsu/tone.lengths", "kotatsu/wave.masters", "kotatsu/sound.when", "kotatsu/sound.rates", "kotatsu/wave.turns", "kotatsu/tone.duties"], apart := false, laid := [("kotatsu/tone.lengths", laid_kotatsu_tone_lengths), ("kotatsu/tone.noises", laid_kotatsu_tone_noises), ("kotatsu/tone.duties", laid_kotatsu_tone_duties), ("kotatsu/sound.rates", laid_kotatsu_sound_rates), ("kotatsu/sound.when", laid_kotatsu_sound_when), ("kotatsu/wave.turns", laid_kotatsu_wave_turns), ("kotatsu/wave.masters", laid_kotatsu_wave_masters)] }
def BoardFreezesSaid : Prop := boardFreezesRow.holds Tryz.pinned (OpenSpec.ofChange boardFreezesSpec)

/-- ITS FALSE NEIGHBOUR: 'it returns false'. Refute it at one input. -/
def boardFreezesWrong : ChangeSpec := { name := "boardFreezes", fn := fun _ => fun
  | [d1, d2, d3] => { results := [.lit (.bool false)], args := [d1, d2, d3] }
  | _ => none }
def BoardFreezesWrongFalsely : Prop := boardFreezesRow.holds Tryz.pinned (OpenSpec.ofChange boardFreezesWrong)

/-- 'kotatsulaw19.BoardResets': WHATEVER THE INPUT: true; the input reads as it did. -/
def boardResetsSpec : ChangeSpec := { name := "boardResets", fn := fun _ => fun
  | [d1, d2, d3, d4] => { results := [.lit (.bool true)], args := [d1, d2, d3, d4] }
  | _ => none }
def boardResetsRow : OpenClaim := { program := "ytkjkgdhgcdgbhaagreatdoor", sum := "a8938161fae2397347bdcddc40a0bfe5f4c1766cee2129b76317c9f0ea7aafc3", func := "kotatsu/kotatsulaw19.BoardResets", spec := "boardResets", inPlace := ["internal/bytealg.IndexByteString"], unfollowed := true, recurses := true, named := ["kotatsu/tone.noises", "kotatsu/tone.lengths", "kotatsu/wave.masters", "kotatsu/sound.when", "kotatsu/sound.rates", "kotatsu/wave.turns", "kotatsu/tone.duties"], apart := false, laid := [("kotatsu/tone.lengths", laid_kotatsu_tone_lengths), ("kotatsu/tone.noises", laid_kotatsu_tone_noises), ("kotatsu/tone.duties", laid_kotatsu_tone_duties), ("kotatsu/sound.rates", laid_kotatsu_sound_rates), ("kotatsu/sound.when", laid_kotatsu_sound_when), ("kotatsu/wave.turns", laid_kotatsu_wave_turns), ("kotatsu/wave.masters", laid_kotatsu_wave_masters)] }
def BoardResetsSaid : Prop := boardResetsRow.holds Tryz.pinned (OpenSpec.ofChange boardResetsSpec)

/-- ITS FALSE NEIGHBOUR: 'it returns false'. Refute it at one input. -/
def boardResetsWrong : ChangeSpec := { name := "boardResets", fn := fun _ => fun
  | [d1, d2, d3, d4] => { results := [.lit (.bool false)], args := [d1, d2, d3, d4] }
  | _ => none }
def BoardResetsWrongFalsely : Prop := boardResetsRow.holds Tryz.pinned (OpenSpec.ofChange boardResetsWrong)

/-- 'kotatsulaw19.BoardPlays': WHATEVER THE INPUT: true; the input reads as it did. -/
def boardPlaysSpec : ChangeSpec := { name := "boardPlays", fn := fun _ => fun
  | [d1, d2, d3, d4, d5] => { results := [.lit (.bool true)], args := [d1, d2, d3, d4, d5] }
  | _ => none }
def boardPlaysRow : OpenClaim := { program := "ytkjkgdhgcdgbhaagreatdoor", sum := "a8938161fae2397347bdcddc40a0bfe5f4c1766cee2129b76317c9f0ea7aafc3", func := "kotatsu/kotatsulaw19.BoardPlays", spec := "boardPlays", inPlace := ["internal/bytealg.IndexByteString"], unfollowed := true, recurses := true, named := ["kotatsu/tone.noises", "kotatsu/tone.lengths", "kotatsu/wave.masters", "kotatsu/sound.when", "kotatsu/sound.rates", "kotatsu/wave.turns", "kotatsu/tone.duties"], apart := false, laid := [("kotatsu/tone.lengths", laid_kotatsu_tone_lengths), ("kotatsu/tone.noises", laid_kotatsu_tone_noises), ("kotatsu/tone.duties", laid_kotatsu_tone_duties), ("kotatsu/sound.rates", laid_kotatsu_sound_rates), ("kotatsu/sound.when", laid_kotatsu_sound_when), ("kotatsu/wave.turns", laid_kotatsu_wave_turns), ("kotatsu/wave.masters", laid_kotatsu_wave_masters)] }
def BoardPlaysSaid : Prop := boardPlaysRow.holds Tryz.pinned (OpenSpec.ofChange boardPlaysSpec)

/-- ITS FALSE NEIGHBOUR: 'it returns false'. Refute it at one input. -/
def boardPlaysWrong : ChangeSpec := { name := "boardPlays", fn := fun _ => fun
  | [d1, d2, d3, d4, d5] => { results := [.lit (.bool false)], args := [d1, d2, d3, d4, d5] }
  | _ => none }
def BoardPlaysWrongFalsely : Prop := boardPlaysRow.holds Tryz.pinned (OpenSpec.ofChange boardPlaysWrong)

/-- 'kotatsulaw19.BoardRefuses': WHATEVER THE INPUT: true; the input reads as it did. -/
def boardRefusesSpec : ChangeSpec := { name := "boardRefuses", fn := fun _ => fun
  | [d1, d2, d3] => { results := [.lit (.bool true)], args := [d1, d2, d3] }
  | _ => none }
def boardRefusesRow : OpenClaim := { program := "ytkjkgdhgcdgbhaagreatdoor", sum := "a8938161fae2397347bdcddc40a0bfe5f4c1766cee2129b76317c9f0ea7aafc3", func := "kotatsu/kotatsulaw19.BoardRefuses", spec := "boardRefuses", inPlace := ["internal/bytealg.IndexByteString"], unfollowed := true, recurses := true, named := ["kotatsu/tone.noises", "kotatsu/tone.lengths", "kotatsu/wave.masters", "kotatsu/sound.when", "kotatsu/sound.rates", "kotatsu/wave.turns", "kotatsu/tone.duties"], apart := false, laid := [("kotatsu/tone.lengths", laid_kotatsu_tone_lengths), ("kotatsu/tone.noises", laid_kotatsu_tone_noises), ("kotatsu/tone.duties", laid_kotatsu_tone_duties), ("kotatsu/sound.rates", laid_kotatsu_sound_rates), ("kotatsu/sound.when", laid_kotatsu_sound_when), ("kotatsu/wave.turns", laid_kotatsu_wave_turns), ("kotatsu/wave.masters", laid_kotatsu_wave_masters)] }
def BoardRefusesSaid : Prop := boardRefusesRow.holds Tryz.pinned (OpenSpec.ofChange boardRefusesSpec)

/-- ITS FALSE NEIGHBOUR: 'it returns false'. Refute it at one input. -/
def boardRefusesWrong : ChangeSpec := { name := "boardRefuses", fn := fun _ => fun
  | [d1, d2, d3] => { results := [.lit (.bool false)], args := [d1, d2, d3] }
  | _ => none }
def BoardRefusesWrongFalsely : Prop := boardRefusesRow.holds Tryz.pinned (OpenSpec.ofChange boardRefusesWrong)

/- THE SECOND FORM. 'bulk': how many values and letters a reading holds, each counted each time it is reached (what is shared counts as often as it is met; a slice's spare places count too). A statement '..UptoSaid' is the law's where the arguments, and the package variables that the reading takes, are together of bulk at most 1048576: NARROWER than '..Said'. Prove '..Said' where nothing that the law and all that it calls make is longer than what came in: it says more and counts as full. Else prove '..UptoSaid'. A law counts once. -/
mutual
def uptoBulk {H : Type} : DataW H → Nat
  | .lit (.string bytes) => bytes.length + 1
  | .lit _ => 1
  | .nil => 1
  | .ptr d => uptoBulk d + 1
  | .slice elems spare => uptoBulkAll elems + uptoBulkAll spare + 1
  | .agg parts => uptoBulkAll parts + 1
  | .iface _ d => uptoBulk d + 1
  | .map entries => uptoBulkEntries entries + 1
  | .held _ => 1
def uptoBulkAll {H : Type} : List (DataW H) → Nat
  | [] => 0
  | d :: r => uptoBulk d + uptoBulkAll r
def uptoBulkEntries {H : Type} : List (Lit × DataW H) → Nat
  | [] => 0
  | x :: r => uptoBulkEntry x + uptoBulkEntries r
def uptoBulkEntry {H : Type} : Lit × DataW H → Nat
  | (.string bytes, d) => bytes.length + uptoBulk d + 1
  | (_, d) => uptoBulk d + 1
 end
def uptoSmall : (H : Type) → List (DataW H) → Bool := fun _ ds => decide (uptoBulkAll ds ≤ 1048576)
def OpenSpec.upto (s : _root_.Go.ChangeSpec) : _root_.Go.OpenSpec := { _root_.Go.OpenSpec.ofChange s with cond := some uptoSmall }

/-- 'kotatsulaw19.BoardSprites', WHERE WHAT IT READS IS OF BULK AT MOST 1048576: true; the input reads as it did. -/
def boardSpritesUptoRow : OpenClaim := { program := "ytkjkgdhgcdgbhaagreatdoor", sum := "a8938161fae2397347bdcddc40a0bfe5f4c1766cee2129b76317c9f0ea7aafc3", func := "kotatsu/kotatsulaw19.BoardSprites", spec := "boardSprites", inPlace := ["internal/bytealg.IndexByteString"], unfollowed := true, recurses := true, named := ["kotatsu/tone.noises", "kotatsu/tone.lengths", "kotatsu/wave.masters", "kotatsu/sound.when", "kotatsu/sound.rates", "kotatsu/wave.turns"], apart := false, laid := [("kotatsu/tone.lengths", laid_kotatsu_tone_lengths), ("kotatsu/tone.noises", laid_kotatsu_tone_noises), ("kotatsu/sound.rates", laid_kotatsu_sound_rates), ("kotatsu/sound.when", laid_kotatsu_sound_when), ("kotatsu/wave.turns", laid_kotatsu_wave_turns), ("kotatsu/wave.masters", laid_kotatsu_wave_masters)], narrowed := true }
def BoardSpritesUptoSaid : Prop := boardSpritesUptoRow.holds Tryz.pinned (OpenSpec.upto boardSpritesSpec)

/-- 'kotatsulaw19.BoardCalls', WHERE WHAT IT READS IS OF BULK AT MOST 1048576: true; the input reads as it did. -/
def boardCallsUptoRow : OpenClaim := { program := "ytkjkgdhgcdgbhaagreatdoor", sum := "a8938161fae2397347bdcddc40a0bfe5f4c1766cee2129b76317c9f0ea7aafc3", func := "kotatsu/kotatsulaw19.BoardCalls", spec := "boardCalls", inPlace := ["internal/bytealg.IndexByteString"], unfollowed := true, recurses := true, named := ["kotatsu/tone.noises", "kotatsu/tone.lengths", "kotatsu/wave.masters", "kotatsu/sound.when", "kotatsu/sound.rates", "kotatsu/wave.turns"], apart := false, laid := [("kotatsu/tone.lengths", laid_kotatsu_tone_lengths), ("kotatsu/tone.noises", laid_kotatsu_tone_noises), ("kotatsu/sound.rates", laid_kotatsu_sound_rates), ("kotatsu/sound.when", laid_kotatsu_sound_when), ("kotatsu/wave.turns", laid_kotatsu_wave_turns), ("kotatsu/wave.masters", laid_kotatsu_wave_masters)], narrowed := true }
def BoardCallsUptoSaid : Prop := boardCallsUptoRow.holds Tryz.pinned (OpenSpec.upto boardCallsSpec)

/-- 'kotatsulaw19.BoardTimes', WHERE WHAT IT READS IS OF BULK AT MOST 1048576: true; the input reads as it did. -/
def boardTimesUptoRow : OpenClaim := { program := "ytkjkgdhgcdgbhaagreatdoor", sum := "a8938161fae2397347bdcddc40a0bfe5f4c1766cee2129b76317c9f0ea7aafc3", func := "kotatsu/kotatsulaw19.BoardTimes", spec := "boardTimes", inPlace := ["internal/bytealg.IndexByteString"], unfollowed := true, recurses := true, named := ["kotatsu/tone.noises", "kotatsu/tone.lengths", "kotatsu/wave.masters", "kotatsu/sound.when", "kotatsu/sound.rates", "kotatsu/wave.turns"], apart := false, laid := [("kotatsu/tone.lengths", laid_kotatsu_tone_lengths), ("kotatsu/tone.noises", laid_kotatsu_tone_noises), ("kotatsu/sound.rates", laid_kotatsu_sound_rates), ("kotatsu/sound.when", laid_kotatsu_sound_when), ("kotatsu/wave.turns", laid_kotatsu_wave_turns), ("kotatsu/wave.masters", laid_kotatsu_wave_masters)], narrowed := true }
def BoardTimesUptoSaid : Prop := boardTimesUptoRow.holds Tryz.pinned (OpenSpec.upto boardTimesSpec)

/-- 'kotatsulaw19.BoardRuns', WHERE WHAT IT READS IS OF BULK AT MOST 1048576: true; the input reads as it did. -/
def boardRunsUptoRow : OpenClaim := { program := "ytkjkgdhgcdgbhaagreatdoor", sum := "a8938161fae2397347bdcddc40a0bfe5f4c1766cee2129b76317c9f0ea7aafc3", func := "kotatsu/kotatsulaw19.BoardRuns", spec := "boardRuns", inPlace := ["internal/bytealg.IndexByteString"], unfollowed := true, recurses := true, named := ["kotatsu/tone.noises", "kotatsu/tone.lengths", "kotatsu/wave.masters", "kotatsu/sound.when", "kotatsu/sound.rates", "kotatsu/wave.turns", "kotatsu/tone.duties"], apart := false, laid := [("kotatsu/tone.lengths", laid_kotatsu_tone_lengths), ("kotatsu/tone.noises", laid_kotatsu_tone_noises), ("kotatsu/tone.duties", laid_kotatsu_tone_duties), ("kotatsu/sound.rates", laid_kotatsu_sound_rates), ("kotatsu/sound.when", laid_kotatsu_sound_when), ("kotatsu/wave.turns", laid_kotatsu_wave_turns), ("kotatsu/wave.masters", laid_kotatsu_wave_masters)], narrowed := true }
def BoardRunsUptoSaid : Prop := boardRunsUptoRow.holds Tryz.pinned (OpenSpec.upto boardRunsSpec)

/-- 'kotatsulaw19.BoardBus', WHERE WHAT IT READS IS OF BULK AT MOST 1048576: true; the input reads as it did. -/
def boardBusUptoRow : OpenClaim := { program := "ytkjkgdhgcdgbhaagreatdoor", sum := "a8938161fae2397347bdcddc40a0bfe5f4c1766cee2129b76317c9f0ea7aafc3", func := "kotatsu/kotatsulaw19.BoardBus", spec := "boardBus", inPlace := ["internal/bytealg.IndexByteString"], unfollowed := true, recurses := true, named := ["kotatsu/tone.noises", "kotatsu/tone.lengths", "kotatsu/wave.masters", "kotatsu/sound.when", "kotatsu/sound.rates", "kotatsu/wave.turns", "kotatsu/tone.duties"], apart := false, laid := [("kotatsu/tone.lengths", laid_kotatsu_tone_lengths), ("kotatsu/tone.noises", laid_kotatsu_tone_noises), ("kotatsu/tone.duties", laid_kotatsu_tone_duties), ("kotatsu/sound.rates", laid_kotatsu_sound_rates), ("kotatsu/sound.when", laid_kotatsu_sound_when), ("kotatsu/wave.turns", laid_kotatsu_wave_turns), ("kotatsu/wave.masters", laid_kotatsu_wave_masters)], narrowed := true }
def BoardBusUptoSaid : Prop := boardBusUptoRow.holds Tryz.pinned (OpenSpec.upto boardBusSpec)

/-- 'kotatsulaw19.BoardFreezes', WHERE WHAT IT READS IS OF BULK AT MOST 1048576: true; the input reads as it did. -/
def boardFreezesUptoRow : OpenClaim := { program := "ytkjkgdhgcdgbhaagreatdoor", sum := "a8938161fae2397347bdcddc40a0bfe5f4c1766cee2129b76317c9f0ea7aafc3", func := "kotatsu/kotatsulaw19.BoardFreezes", spec := "boardFreezes", inPlace := ["internal/bytealg.IndexByteString"], unfollowed := true, recurses := true, named := ["kotatsu/tone.noises", "kotatsu/tone.lengths", "kotatsu/wave.masters", "kotatsu/sound.when", "kotatsu/sound.rates", "kotatsu/wave.turns", "kotatsu/tone.duties"], apart := false, laid := [("kotatsu/tone.lengths", laid_kotatsu_tone_lengths), ("kotatsu/tone.noises", laid_kotatsu_tone_noises), ("kotatsu/tone.duties", laid_kotatsu_tone_duties), ("kotatsu/sound.rates", laid_kotatsu_sound_rates), ("kotatsu/sound.when", laid_kotatsu_sound_when), ("kotatsu/wave.turns", laid_kotatsu_wave_turns), ("kotatsu/wave.masters", laid_kotatsu_wave_masters)], narrowed := true }
def BoardFreezesUptoSaid : Prop := boardFreezesUptoRow.holds Tryz.pinned (OpenSpec.upto boardFreezesSpec)

/-- 'kotatsulaw19.BoardResets', WHERE WHAT IT READS IS OF BULK AT MOST 1048576: true; the input reads as it did. -/
def boardResetsUptoRow : OpenClaim := { program := "ytkjkgdhgcdgbhaagreatdoor", sum := "a8938161fae2397347bdcddc40a0bfe5f4c1766cee2129b76317c9f0ea7aafc3", func := "kotatsu/kotatsulaw19.BoardResets", spec := "boardResets", inPlace := ["internal/bytealg.IndexByteString"], unfollowed := true, recurses := true, named := ["kotatsu/tone.noises", "kotatsu/tone.lengths", "kotatsu/wave.masters", "kotatsu/sound.when", "kotatsu/sound.rates", "kotatsu/wave.turns", "kotatsu/tone.duties"], apart := false, laid := [("kotatsu/tone.lengths", laid_kotatsu_tone_lengths), ("kotatsu/tone.noises", laid_kotatsu_tone_noises), ("kotatsu/tone.duties", laid_kotatsu_tone_duties), ("kotatsu/sound.rates", laid_kotatsu_sound_rates), ("kotatsu/sound.when", laid_kotatsu_sound_when), ("kotatsu/wave.turns", laid_kotatsu_wave_turns), ("kotatsu/wave.masters", laid_kotatsu_wave_masters)], narrowed := true }
def BoardResetsUptoSaid : Prop := boardResetsUptoRow.holds Tryz.pinned (OpenSpec.upto boardResetsSpec)

/-- 'kotatsulaw19.BoardPlays', WHERE WHAT IT READS IS OF BULK AT MOST 1048576: true; the input reads as it did. -/
def boardPlaysUptoRow : OpenClaim := { program := "ytkjkgdhgcdgbhaagreatdoor", sum := "a8938161fae2397347bdcddc40a0bfe5f4c1766cee2129b76317c9f0ea7aafc3", func := "kotatsu/kotatsulaw19.BoardPlays", spec := "boardPlays", inPlace := ["internal/bytealg.IndexByteString"], unfollowed := true, recurses := true, named := ["kotatsu/tone.noises", "kotatsu/tone.lengths", "kotatsu/wave.masters", "kotatsu/sound.when", "kotatsu/sound.rates", "kotatsu/wave.turns", "kotatsu/tone.duties"], apart := false, laid := [("kotatsu/tone.lengths", laid_kotatsu_tone_lengths), ("kotatsu/tone.noises", laid_kotatsu_tone_noises), ("kotatsu/tone.duties", laid_kotatsu_tone_duties), ("kotatsu/sound.rates", laid_kotatsu_sound_rates), ("kotatsu/sound.when", laid_kotatsu_sound_when), ("kotatsu/wave.turns", laid_kotatsu_wave_turns), ("kotatsu/wave.masters", laid_kotatsu_wave_masters)], narrowed := true }
def BoardPlaysUptoSaid : Prop := boardPlaysUptoRow.holds Tryz.pinned (OpenSpec.upto boardPlaysSpec)

/-- 'kotatsulaw19.BoardRefuses', WHERE WHAT IT READS IS OF BULK AT MOST 1048576: true; the input reads as it did. -/
def boardRefusesUptoRow : OpenClaim := { program := "ytkjkgdhgcdgbhaagreatdoor", sum := "a8938161fae2397347bdcddc40a0bfe5f4c1766cee2129b76317c9f0ea7aafc3", func := "kotatsu/kotatsulaw19.BoardRefuses", spec := "boardRefuses", inPlace := ["internal/bytealg.IndexByteString"], unfollowed := true, recurses := true, named := ["kotatsu/tone.noises", "kotatsu/tone.lengths", "kotatsu/wave.masters", "kotatsu/sound.when", "kotatsu/sound.rates", "kotatsu/wave.turns", "kotatsu/tone.duties"], apart := false, laid := [("kotatsu/tone.lengths", laid_kotatsu_tone_lengths), ("kotatsu/tone.noises", laid_kotatsu_tone_noises), ("kotatsu/tone.duties", laid_kotatsu_tone_duties), ("kotatsu/sound.rates", laid_kotatsu_sound_rates), ("kotatsu/sound.when", laid_kotatsu_sound_when), ("kotatsu/wave.turns", laid_kotatsu_wave_turns), ("kotatsu/wave.masters", laid_kotatsu_wave_masters)], narrowed := true }
def BoardRefusesUptoSaid : Prop := boardRefusesUptoRow.holds Tryz.pinned (OpenSpec.upto boardRefusesSpec)

end Rows
end Go.Proofs.YtkjkgdhgcdgbhaaGreatDoor
