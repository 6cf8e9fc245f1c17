/-
  No cell of these rows narrows 'for every input' (looked for: loops, veiled, ifaces, maps, wideKeys, modest, calm, conditions, laid).
  DERIVED. THE GIVEN ROWS OF THIS SEAT. 4 by the template 'for every input the law returns true; each argument reads behind the call as it read before'; 0 by the template 'total and deterministic' (their statements: YtdlakdbhgbhkiaaTotals.lean).
  GIVEN WITH THE SEED: the statements are not yours to turn. If you find one false, say at which input.
  Laid BY PROGRAM, IN A SANDBOX (cutbox-rows.mjs): the forced cells as the released guide's own fill.sh prints them over the translation 4d850aa44c3301ca… (all of the seat's roots in one cut). By AI agents, Wed Nov 11 2026. No macro, syntax, notation, axiom, sorry.
-/
import Derived.Test.YtdlakdbhgbhkiaaChecked
import GoSem.Claim
import GoSem.ClaimJoined
import GoSem.ClaimMapViews
import Derived.JoinedTies
import Derived.KernelRfl
namespace Go.Proofs.Ytdlakdbhgbhkiaa
/- THE CELL 'sum', in the pinned program and in every row, IS THE sha256 OF THE DUMP (.gsa) THAT YtdlakdbhgbhkiaaProg.lean LOADS. Nothing in Lean hashes anything: it is a label: what it is worth is what the hold of that sum in a sandbox is worth. -/
noncomputable def Try.pinned : Pinned := { name := "ytdlakdbhgbhkiaa", sum := "4d850aa44c3301ca793e9c871b95c229f8cfefe7bbd7a51820a896c16c775510", checked := Try.checked }
namespace Rows
def none {H : Type} : Left H := { results := [], args := [] }

/-- 'kotatsulaw16.PadPlays': WHATEVER THE INPUT: true; the input reads as it did. -/
def padPlaysSpec : ChangeSpec := { name := "padPlays", fn := fun _ => fun
  | [d] => { results := [.lit (.bool true)], args := [d] }
  | _ => none }
def padPlaysRow : OpenClaim := { program := "ytdlakdbhgbhkiaa", sum := "4d850aa44c3301ca793e9c871b95c229f8cfefe7bbd7a51820a896c16c775510", func := "kotatsu/kotatsulaw16.PadPlays", spec := "padPlays", apart := false }
def PadPlaysSaid : Prop := padPlaysRow.holds Try.pinned (OpenSpec.ofChange padPlaysSpec)

/-- ITS FALSE NEIGHBOUR: 'it returns false'. Refute it at one input. -/
def padPlaysWrong : ChangeSpec := { name := "padPlays", fn := fun _ => fun
  | [d] => { results := [.lit (.bool false)], args := [d] }
  | _ => none }
def PadPlaysWrongFalsely : Prop := padPlaysRow.holds Try.pinned (OpenSpec.ofChange padPlaysWrong)

/-- 'kotatsulaw16.PadRows': WHATEVER THE INPUT: true; the input reads as it did. -/
def padRowsSpec : ChangeSpec := { name := "padRows", fn := fun _ => fun
  | [d1, d2, d3] => { results := [.lit (.bool true)], args := [d1, d2, d3] }
  | _ => none }
def padRowsRow : OpenClaim := { program := "ytdlakdbhgbhkiaa", sum := "4d850aa44c3301ca793e9c871b95c229f8cfefe7bbd7a51820a896c16c775510", func := "kotatsu/kotatsulaw16.PadRows", spec := "padRows", apart := false }
def PadRowsSaid : Prop := padRowsRow.holds Try.pinned (OpenSpec.ofChange padRowsSpec)

/-- ITS FALSE NEIGHBOUR: 'it returns false'. Refute it at one input. -/
def padRowsWrong : ChangeSpec := { name := "padRows", fn := fun _ => fun
  | [d1, d2, d3] => { results := [.lit (.bool false)], args := [d1, d2, d3] }
  | _ => none }
def PadRowsWrongFalsely : Prop := padRowsRow.holds Try.pinned (OpenSpec.ofChange padRowsWrong)

/-- 'kotatsulaw16.PadApart': WHATEVER THE INPUT: true; the input reads as it did. -/
def padApartSpec : ChangeSpec := { name := "padApart", fn := fun _ => fun
  | [d1, d2] => { results := [.lit (.bool true)], args := [d1, d2] }
  | _ => none }
def padApartRow : OpenClaim := { program := "ytdlakdbhgbhkiaa", sum := "4d850aa44c3301ca793e9c871b95c229f8cfefe7bbd7a51820a896c16c775510", func := "kotatsu/kotatsulaw16.PadApart", spec := "padApart", apart := false }
def PadApartSaid : Prop := padApartRow.holds Try.pinned (OpenSpec.ofChange padApartSpec)

/-- ITS FALSE NEIGHBOUR: 'it returns false'. Refute it at one input. -/
def padApartWrong : ChangeSpec := { name := "padApart", fn := fun _ => fun
  | [d1, d2] => { results := [.lit (.bool false)], args := [d1, d2] }
  | _ => none }
def PadApartWrongFalsely : Prop := padApartRow.holds Try.pinned (OpenSpec.ofChange padApartWrong)

/-- 'kotatsulaw16.PadTexts': WHATEVER THE INPUT: true; the input reads as it did. -/
def padTextsSpec : ChangeSpec := { name := "padTexts", fn := fun _ => fun
  | [d1, d2] => { results := [.lit (.bool true)], args := [d1, d2] }
  | _ => none }
def padTextsRow : OpenClaim := { program := "ytdlakdbhgbhkiaa", sum := "4d850aa44c3301ca793e9c871b95c229f8cfefe7bbd7a51820a896c16c775510", func := "kotatsu/kotatsulaw16.PadTexts", spec := "padTexts", inPlace := ["internal/bytealg.IndexByteString", "internal/abi.NoEscape"], apart := false }
def PadTextsSaid : Prop := padTextsRow.holds Try.pinned (OpenSpec.ofChange padTextsSpec)

/-- ITS FALSE NEIGHBOUR: 'it returns false'. Refute it at one input. -/
def padTextsWrong : ChangeSpec := { name := "padTexts", fn := fun _ => fun
  | [d1, d2] => { results := [.lit (.bool false)], args := [d1, d2] }
  | _ => none }
def PadTextsWrongFalsely : Prop := padTextsRow.holds Try.pinned (OpenSpec.ofChange padTextsWrong)

/- THE SECOND FORM. 'bulk': how many values and letters a reading holds, each counted each time it is reached (what is shared counts as often as it is met; a slice's spare places count too). A statement '..UptoSaid' is the law's where the arguments, and the package variables that the reading takes, are together of bulk at most 1048576: NARROWER than '..Said'. Prove '..Said' where nothing that the law and all that it calls make is longer than what came in: it says more and counts as full. Else prove '..UptoSaid'. A law counts once. -/
mutual
def uptoBulk {H : Type} : DataW H → Nat
  | .lit (.string bytes) => bytes.length + 1
  | .lit _ => 1
  | .nil => 1
  | .ptr d => uptoBulk d + 1
  | .slice elems spare => uptoBulkAll elems + uptoBulkAll spare + 1
  | .agg parts => uptoBulkAll parts + 1
  | .iface _ d => uptoBulk d + 1
  | .map entries => uptoBulkEntries entries + 1
  | .held _ => 1
def uptoBulkAll {H : Type} : List (DataW H) → Nat
  | [] => 0
  | d :: r => uptoBulk d + uptoBulkAll r
def uptoBulkEntries {H : Type} : List (Lit × DataW H) → Nat
  | [] => 0
  | x :: r => uptoBulkEntry x + uptoBulkEntries r
def uptoBulkEntry {H : Type} : Lit × DataW H → Nat
  | (.string bytes, d) => bytes.length + uptoBulk d + 1
  | (_, d) => uptoBulk d + 1
 end
def uptoSmall : (H : Type) → List (DataW H) → Bool := fun _ ds => decide (uptoBulkAll ds ≤ 1048576)
def OpenSpec.upto (s : _root_.Go.ChangeSpec) : _root_.Go.OpenSpec := { _root_.Go.OpenSpec.ofChange s with cond := some uptoSmall }

/-- 'kotatsulaw16.PadPlays', WHERE WHAT IT READS IS OF BULK AT MOST 1048576: true; the input reads as it did. -/
def padPlaysUptoRow : OpenClaim := { program := "ytdlakdbhgbhkiaa", sum := "4d850aa44c3301ca793e9c871b95c229f8cfefe7bbd7a51820a896c16c775510", func := "kotatsu/kotatsulaw16.PadPlays", spec := "padPlays", apart := false, narrowed := true }
def PadPlaysUptoSaid : Prop := padPlaysUptoRow.holds Try.pinned (OpenSpec.upto padPlaysSpec)

/-- 'kotatsulaw16.PadRows', WHERE WHAT IT READS IS OF BULK AT MOST 1048576: true; the input reads as it did. -/
def padRowsUptoRow : OpenClaim := { program := "ytdlakdbhgbhkiaa", sum := "4d850aa44c3301ca793e9c871b95c229f8cfefe7bbd7a51820a896c16c775510", func := "kotatsu/kotatsulaw16.PadRows", spec := "padRows", apart := false, narrowed := true }
def PadRowsUptoSaid : Prop := padRowsUptoRow.holds Try.pinned (OpenSpec.upto padRowsSpec)

/-- 'kotatsulaw16.PadApart', WHERE WHAT IT READS IS OF BULK AT MOST 1048576: true; the input reads as it did. -/
def padApartUptoRow : OpenClaim := { program := "ytdlakdbhgbhkiaa", sum := "4d850aa44c3301ca793e9c871b95c229f8cfefe7bbd7a51820a896c16c775510", func := "kotatsu/kotatsulaw16.PadApart", spec := "padApart", apart := false, narrowed := true }
def PadApartUptoSaid : Prop := padApartUptoRow.holds Try.pinned (OpenSpec.upto padApartSpec)

/-- 'kotatsulaw16.PadTexts', WHERE WHAT IT READS IS OF BULK AT MOST 1048576: true; the input reads as it did. -/
def padTextsUptoRow : OpenClaim := { program := "ytdlakdbhgbhkiaa", sum := "4d850aa44c3301ca793e9c871b95c229f8cfefe7bbd7a51820a896c16c775510", func := "kotatsu/kotatsulaw16.PadTexts", spec := "padTexts", inPlace := ["internal/bytealg.IndexByteString", "internal/abi.NoEscape"], apart := false, narrowed := true }
def PadTextsUptoSaid : Prop := padTextsUptoRow.holds Try.pinned (OpenSpec.upto padTextsSpec)

end Rows
end Go.Proofs.Ytdlakdbhgbhkiaa
