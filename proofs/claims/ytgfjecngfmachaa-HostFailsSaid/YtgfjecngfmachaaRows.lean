/-
  No cell of these rows narrows 'for every input' (looked for: loops, veiled, ifaces, maps, wideKeys, modest, calm, conditions, laid).
  DERIVED. THE GIVEN ROWS OF THIS SEAT. 5 by the template 'for every input the law returns true; each argument reads behind the call as it read before'; 0 by the template 'total and deterministic' (their statements: YtgfjecngfmachaaTotals.lean).
  GIVEN WITH THE SEED: the statements are not yours to turn. If you find one false, say at which input.
  Laid BY PROGRAM, IN A SANDBOX (cutbox-rows.mjs): the forced cells as the released guide's own fill.sh prints them over the translation ff6ae5d34b320351… (all of the seat's roots in one cut). By AI agents, Wed Nov 11 2026. No macro, syntax, notation, axiom, sorry.
-/
import Derived.Test.YtgfjecngfmachaaChecked
import GoSem.Claim
import GoSem.ClaimJoined
import GoSem.ClaimMapViews
import Derived.JoinedTies
import Derived.KernelRfl
namespace Go.Proofs.Ytgfjecngfmachaa
/- THE CELL 'sum', in the pinned program and in every row, IS THE sha256 OF THE DUMP (.gsa) THAT YtgfjecngfmachaaProg.lean LOADS. Nothing in Lean hashes anything: it is a label: what it is worth is what the hold of that sum in a sandbox is worth. -/
noncomputable def Try.pinned : Pinned := { name := "ytgfjecngfmachaa", sum := "ff6ae5d34b320351ac0720f551fe4c2f33355bed68137c1f7a4547f0163beb7e", checked := Try.checked }
namespace Rows
def none {H : Type} : Left H := { results := [], args := [] }

/-- 'kotatsulaw01.HostWhole': WHATEVER THE INPUT: true; the input reads as it did. -/
def hostWholeSpec : ChangeSpec := { name := "hostWhole", fn := fun _ => fun
  | [d1, d2, d3, d4, d5] => { results := [.lit (.bool true)], args := [d1, d2, d3, d4, d5] }
  | _ => none }
def hostWholeRow : OpenClaim := { program := "ytgfjecngfmachaa", sum := "ff6ae5d34b320351ac0720f551fe4c2f33355bed68137c1f7a4547f0163beb7e", func := "kotatsu/kotatsulaw01.HostWhole", spec := "hostWhole", inPlace := ["maps.clone"], unfollowed := true, recurses := true, apart := false }
def HostWholeSaid : Prop := hostWholeRow.holds Try.pinned (OpenSpec.ofChange hostWholeSpec)

/-- ITS FALSE NEIGHBOUR: 'it returns false'. Refute it at one input. -/
def hostWholeWrong : ChangeSpec := { name := "hostWhole", fn := fun _ => fun
  | [d1, d2, d3, d4, d5] => { results := [.lit (.bool false)], args := [d1, d2, d3, d4, d5] }
  | _ => none }
def HostWholeWrongFalsely : Prop := hostWholeRow.holds Try.pinned (OpenSpec.ofChange hostWholeWrong)

/-- 'kotatsulaw01.HostSafe': WHATEVER THE INPUT: true; the input reads as it did. -/
def hostSafeSpec : ChangeSpec := { name := "hostSafe", fn := fun _ => fun
  | [d1, d2, d3, d4, d5] => { results := [.lit (.bool true)], args := [d1, d2, d3, d4, d5] }
  | _ => none }
def hostSafeRow : OpenClaim := { program := "ytgfjecngfmachaa", sum := "ff6ae5d34b320351ac0720f551fe4c2f33355bed68137c1f7a4547f0163beb7e", func := "kotatsu/kotatsulaw01.HostSafe", spec := "hostSafe", inPlace := ["maps.clone"], unfollowed := true, recurses := true, apart := false }
def HostSafeSaid : Prop := hostSafeRow.holds Try.pinned (OpenSpec.ofChange hostSafeSpec)

/-- ITS FALSE NEIGHBOUR: 'it returns false'. Refute it at one input. -/
def hostSafeWrong : ChangeSpec := { name := "hostSafe", fn := fun _ => fun
  | [d1, d2, d3, d4, d5] => { results := [.lit (.bool false)], args := [d1, d2, d3, d4, d5] }
  | _ => none }
def HostSafeWrongFalsely : Prop := hostSafeRow.holds Try.pinned (OpenSpec.ofChange hostSafeWrong)

/-- 'kotatsulaw01.HostPlays': WHATEVER THE INPUT: true; the input reads as it did. -/
def hostPlaysSpec : ChangeSpec := { name := "hostPlays", fn := fun _ => fun
  | [d1, d2] => { results := [.lit (.bool true)], args := [d1, d2] }
  | _ => none }
def hostPlaysRow : OpenClaim := { program := "ytgfjecngfmachaa", sum := "ff6ae5d34b320351ac0720f551fe4c2f33355bed68137c1f7a4547f0163beb7e", func := "kotatsu/kotatsulaw01.HostPlays", spec := "hostPlays", inPlace := ["maps.clone"], unfollowed := true, recurses := true, apart := false }
def HostPlaysSaid : Prop := hostPlaysRow.holds Try.pinned (OpenSpec.ofChange hostPlaysSpec)

/-- ITS FALSE NEIGHBOUR: 'it returns false'. Refute it at one input. -/
def hostPlaysWrong : ChangeSpec := { name := "hostPlays", fn := fun _ => fun
  | [d1, d2] => { results := [.lit (.bool false)], args := [d1, d2] }
  | _ => none }
def HostPlaysWrongFalsely : Prop := hostPlaysRow.holds Try.pinned (OpenSpec.ofChange hostPlaysWrong)

/-- 'kotatsulaw01.HostFails': WHATEVER THE INPUT: true; the input reads as it did. -/
def hostFailsSpec : ChangeSpec := { name := "hostFails", fn := fun _ => fun
  | [d1, d2, d3] => { results := [.lit (.bool true)], args := [d1, d2, d3] }
  | _ => none }
def hostFailsRow : OpenClaim := { program := "ytgfjecngfmachaa", sum := "ff6ae5d34b320351ac0720f551fe4c2f33355bed68137c1f7a4547f0163beb7e", func := "kotatsu/kotatsulaw01.HostFails", spec := "hostFails", inPlace := ["maps.clone"], unfollowed := true, recurses := true, apart := false }
def HostFailsSaid : Prop := hostFailsRow.holds Try.pinned (OpenSpec.ofChange hostFailsSpec)

/-- ITS FALSE NEIGHBOUR: 'it returns false'. Refute it at one input. -/
def hostFailsWrong : ChangeSpec := { name := "hostFails", fn := fun _ => fun
  | [d1, d2, d3] => { results := [.lit (.bool false)], args := [d1, d2, d3] }
  | _ => none }
def HostFailsWrongFalsely : Prop := hostFailsRow.holds Try.pinned (OpenSpec.ofChange hostFailsWrong)

/-- 'kotatsulaw01.HostNil': WHATEVER THE INPUT: true; the input reads as it did. -/
def hostNilSpec : ChangeSpec := { name := "hostNil", fn := fun _ => fun
  | [d1, d2, d3, d4] => { results := [.lit (.bool true)], args := [d1, d2, d3, d4] }
  | _ => none }
def hostNilRow : OpenClaim := { program := "ytgfjecngfmachaa", sum := "ff6ae5d34b320351ac0720f551fe4c2f33355bed68137c1f7a4547f0163beb7e", func := "kotatsu/kotatsulaw01.HostNil", spec := "hostNil", inPlace := ["maps.clone"], unfollowed := true, recurses := true, apart := false }
def HostNilSaid : Prop := hostNilRow.holds Try.pinned (OpenSpec.ofChange hostNilSpec)

/-- ITS FALSE NEIGHBOUR: 'it returns false'. Refute it at one input. -/
def hostNilWrong : ChangeSpec := { name := "hostNil", fn := fun _ => fun
  | [d1, d2, d3, d4] => { results := [.lit (.bool false)], args := [d1, d2, d3, d4] }
  | _ => none }
def HostNilWrongFalsely : Prop := hostNilRow.holds Try.pinned (OpenSpec.ofChange hostNilWrong)

/- THE SECOND FORM. 'bulk': how many values and letters a reading holds, each counted each time it is reached (what is shared counts as often as it is met; a slice's spare places count too). A statement '..UptoSaid' is the law's where the arguments, and the package variables that the reading takes, are together of bulk at most 1048576: NARROWER than '..Said'. Prove '..Said' where nothing that the law and all that it calls make is longer than what came in: it says more and counts as full. Else prove '..UptoSaid'. A law counts once. -/
mutual
def uptoBulk {H : Type} : DataW H → Nat
  | .lit (.string bytes) => bytes.length + 1
  | .lit _ => 1
  | .nil => 1
  | .ptr d => uptoBulk d + 1
  | .slice elems spare => uptoBulkAll elems + uptoBulkAll spare + 1
  | .agg parts => uptoBulkAll parts + 1
  | .iface _ d => uptoBulk d + 1
  | .map entries => uptoBulkEntries entries + 1
  | .held _ => 1
def uptoBulkAll {H : Type} : List (DataW H) → Nat
  | [] => 0
  | d :: r => uptoBulk d + uptoBulkAll r
def uptoBulkEntries {H : Type} : List (Lit × DataW H) → Nat
  | [] => 0
  | x :: r => uptoBulkEntry x + uptoBulkEntries r
def uptoBulkEntry {H : Type} : Lit × DataW H → Nat
  | (.string bytes, d) => bytes.length + uptoBulk d + 1
  | (_, d) => uptoBulk d + 1
 end
def uptoSmall : (H : Type) → List (DataW H) → Bool := fun _ ds => decide (uptoBulkAll ds ≤ 1048576)
def OpenSpec.upto (s : _root_.Go.ChangeSpec) : _root_.Go.OpenSpec := { _root_.Go.OpenSpec.ofChange s with cond := some uptoSmall }

/-- 'kotatsulaw01.HostWhole', WHERE WHAT IT READS IS OF BULK AT MOST 1048576: true; the input reads as it did. -/
def hostWholeUptoRow : OpenClaim := { program := "ytgfjecngfmachaa", sum := "ff6ae5d34b320351ac0720f551fe4c2f33355bed68137c1f7a4547f0163beb7e", func := "kotatsu/kotatsulaw01.HostWhole", spec := "hostWhole", inPlace := ["maps.clone"], unfollowed := true, recurses := true, apart := false, narrowed := true }
def HostWholeUptoSaid : Prop := hostWholeUptoRow.holds Try.pinned (OpenSpec.upto hostWholeSpec)

/-- 'kotatsulaw01.HostSafe', WHERE WHAT IT READS IS OF BULK AT MOST 1048576: true; the input reads as it did. -/
def hostSafeUptoRow : OpenClaim := { program := "ytgfjecngfmachaa", sum := "ff6ae5d34b320351ac0720f551fe4c2f33355bed68137c1f7a4547f0163beb7e", func := "kotatsu/kotatsulaw01.HostSafe", spec := "hostSafe", inPlace := ["maps.clone"], unfollowed := true, recurses := true, apart := false, narrowed := true }
def HostSafeUptoSaid : Prop := hostSafeUptoRow.holds Try.pinned (OpenSpec.upto hostSafeSpec)

/-- 'kotatsulaw01.HostPlays', WHERE WHAT IT READS IS OF BULK AT MOST 1048576: true; the input reads as it did. -/
def hostPlaysUptoRow : OpenClaim := { program := "ytgfjecngfmachaa", sum := "ff6ae5d34b320351ac0720f551fe4c2f33355bed68137c1f7a4547f0163beb7e", func := "kotatsu/kotatsulaw01.HostPlays", spec := "hostPlays", inPlace := ["maps.clone"], unfollowed := true, recurses := true, apart := false, narrowed := true }
def HostPlaysUptoSaid : Prop := hostPlaysUptoRow.holds Try.pinned (OpenSpec.upto hostPlaysSpec)

/-- 'kotatsulaw01.HostFails', WHERE WHAT IT READS IS OF BULK AT MOST 1048576: true; the input reads as it did. -/
def hostFailsUptoRow : OpenClaim := { program := "ytgfjecngfmachaa", sum := "ff6ae5d34b320351ac0720f551fe4c2f33355bed68137c1f7a4547f0163beb7e", func := "kotatsu/kotatsulaw01.HostFails", spec := "hostFails", inPlace := ["maps.clone"], unfollowed := true, recurses := true, apart := false, narrowed := true }
def HostFailsUptoSaid : Prop := hostFailsUptoRow.holds Try.pinned (OpenSpec.upto hostFailsSpec)

/-- 'kotatsulaw01.HostNil', WHERE WHAT IT READS IS OF BULK AT MOST 1048576: true; the input reads as it did. -/
def hostNilUptoRow : OpenClaim := { program := "ytgfjecngfmachaa", sum := "ff6ae5d34b320351ac0720f551fe4c2f33355bed68137c1f7a4547f0163beb7e", func := "kotatsu/kotatsulaw01.HostNil", spec := "hostNil", inPlace := ["maps.clone"], unfollowed := true, recurses := true, apart := false, narrowed := true }
def HostNilUptoSaid : Prop := hostNilUptoRow.holds Try.pinned (OpenSpec.upto hostNilSpec)

end Rows
end Go.Proofs.Ytgfjecngfmachaa
