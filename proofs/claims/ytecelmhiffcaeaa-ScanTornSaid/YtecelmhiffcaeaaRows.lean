/-
  No cell of these rows narrows 'for every input' (looked for: loops, veiled, ifaces, maps, wideKeys, modest, calm, conditions, laid).
  DERIVED. THE GIVEN ROWS OF THIS SEAT. 5 by the template 'for every input the law returns true; each argument reads behind the call as it read before'; 0 by the template 'total and deterministic' (their statements: YtecelmhiffcaeaaTotals.lean).
  GIVEN WITH THE SEED: the statements are not yours to turn. If you find one false, say at which input.
  Laid BY PROGRAM, IN A SANDBOX (cutbox-rows.mjs): the forced cells as the released guide's own fill.sh prints them over the translation 7ba0aedf8f7d3701… (all of the seat's roots in one cut). By AI agents, Wed Nov 11 2026. No macro, syntax, notation, axiom, sorry.
-/
import Derived.Test.YtecelmhiffcaeaaChecked
import GoSem.Claim
import GoSem.ClaimJoined
import GoSem.ClaimMapViews
import Derived.JoinedTies
import Derived.KernelRfl
namespace Go.Proofs.Ytecelmhiffcaeaa
/- THE CELL 'sum', in the pinned program and in every row, IS THE sha256 OF THE DUMP (.gsa) THAT YtecelmhiffcaeaaProg.lean LOADS. Nothing in Lean hashes anything: it is a label: what it is worth is what the hold of that sum in a sandbox is worth. -/
noncomputable def Try.pinned : Pinned := { name := "ytecelmhiffcaeaa", sum := "7ba0aedf8f7d37015938ab9f45f262ce398eb1343f9b9225ac1d21477e4d06b9", checked := Try.checked }
namespace Rows
def none {H : Type} : Left H := { results := [], args := [] }

/-- 'cachepotlaw13.ScanImages': WHATEVER THE INPUT: true; the input reads as it did. -/
def scanImagesSpec : ChangeSpec := { name := "scanImages", fn := fun _ => fun
  | [d1, d2] => { results := [.lit (.bool true)], args := [d1, d2] }
  | _ => none }
def scanImagesRow : OpenClaim := { program := "ytecelmhiffcaeaa", sum := "7ba0aedf8f7d37015938ab9f45f262ce398eb1343f9b9225ac1d21477e4d06b9", func := "cachepot/cachepotlaw13.ScanImages", spec := "scanImages", inPlace := ["internal/abi.NoEscape", "internal/bytealg.MakeNoZero"], apart := false }
def ScanImagesSaid : Prop := scanImagesRow.holds Try.pinned (OpenSpec.ofChange scanImagesSpec)

/-- ITS FALSE NEIGHBOUR: 'it returns false'. Refute it at one input. -/
def scanImagesWrong : ChangeSpec := { name := "scanImages", fn := fun _ => fun
  | [d1, d2] => { results := [.lit (.bool false)], args := [d1, d2] }
  | _ => none }
def ScanImagesWrongFalsely : Prop := scanImagesRow.holds Try.pinned (OpenSpec.ofChange scanImagesWrong)

/-- 'cachepotlaw13.ScanPages': WHATEVER THE INPUT: true; the input reads as it did. -/
def scanPagesSpec : ChangeSpec := { name := "scanPages", fn := fun _ => fun
  | [d1, d2, d3, d4] => { results := [.lit (.bool true)], args := [d1, d2, d3, d4] }
  | _ => none }
def scanPagesRow : OpenClaim := { program := "ytecelmhiffcaeaa", sum := "7ba0aedf8f7d37015938ab9f45f262ce398eb1343f9b9225ac1d21477e4d06b9", func := "cachepot/cachepotlaw13.ScanPages", spec := "scanPages", inPlace := ["internal/abi.NoEscape", "internal/bytealg.MakeNoZero"], apart := false }
def ScanPagesSaid : Prop := scanPagesRow.holds Try.pinned (OpenSpec.ofChange scanPagesSpec)

/-- ITS FALSE NEIGHBOUR: 'it returns false'. Refute it at one input. -/
def scanPagesWrong : ChangeSpec := { name := "scanPages", fn := fun _ => fun
  | [d1, d2, d3, d4] => { results := [.lit (.bool false)], args := [d1, d2, d3, d4] }
  | _ => none }
def ScanPagesWrongFalsely : Prop := scanPagesRow.holds Try.pinned (OpenSpec.ofChange scanPagesWrong)

/-- 'cachepotlaw13.ScanDown': WHATEVER THE INPUT: true; the input reads as it did. -/
def scanDownSpec : ChangeSpec := { name := "scanDown", fn := fun _ => fun
  | [d1, d2] => { results := [.lit (.bool true)], args := [d1, d2] }
  | _ => none }
def scanDownRow : OpenClaim := { program := "ytecelmhiffcaeaa", sum := "7ba0aedf8f7d37015938ab9f45f262ce398eb1343f9b9225ac1d21477e4d06b9", func := "cachepot/cachepotlaw13.ScanDown", spec := "scanDown", inPlace := ["internal/abi.NoEscape", "internal/bytealg.MakeNoZero"], apart := false }
def ScanDownSaid : Prop := scanDownRow.holds Try.pinned (OpenSpec.ofChange scanDownSpec)

/-- ITS FALSE NEIGHBOUR: 'it returns false'. Refute it at one input. -/
def scanDownWrong : ChangeSpec := { name := "scanDown", fn := fun _ => fun
  | [d1, d2] => { results := [.lit (.bool false)], args := [d1, d2] }
  | _ => none }
def ScanDownWrongFalsely : Prop := scanDownRow.holds Try.pinned (OpenSpec.ofChange scanDownWrong)

/-- 'cachepotlaw13.ScanTape': WHATEVER THE INPUT: true; the input reads as it did. -/
def scanTapeSpec : ChangeSpec := { name := "scanTape", fn := fun _ => fun
  | [d1, d2, d3] => { results := [.lit (.bool true)], args := [d1, d2, d3] }
  | _ => none }
def scanTapeRow : OpenClaim := { program := "ytecelmhiffcaeaa", sum := "7ba0aedf8f7d37015938ab9f45f262ce398eb1343f9b9225ac1d21477e4d06b9", func := "cachepot/cachepotlaw13.ScanTape", spec := "scanTape", inPlace := ["internal/abi.NoEscape", "internal/bytealg.MakeNoZero"], apart := false }
def ScanTapeSaid : Prop := scanTapeRow.holds Try.pinned (OpenSpec.ofChange scanTapeSpec)

/-- ITS FALSE NEIGHBOUR: 'it returns false'. Refute it at one input. -/
def scanTapeWrong : ChangeSpec := { name := "scanTape", fn := fun _ => fun
  | [d1, d2, d3] => { results := [.lit (.bool false)], args := [d1, d2, d3] }
  | _ => none }
def ScanTapeWrongFalsely : Prop := scanTapeRow.holds Try.pinned (OpenSpec.ofChange scanTapeWrong)

/-- 'cachepotlaw13.ScanTorn': WHATEVER THE INPUT: true; the input reads as it did. -/
def scanTornSpec : ChangeSpec := { name := "scanTorn", fn := fun _ => fun
  | [d1, d2, d3, d4] => { results := [.lit (.bool true)], args := [d1, d2, d3, d4] }
  | _ => none }
def scanTornRow : OpenClaim := { program := "ytecelmhiffcaeaa", sum := "7ba0aedf8f7d37015938ab9f45f262ce398eb1343f9b9225ac1d21477e4d06b9", func := "cachepot/cachepotlaw13.ScanTorn", spec := "scanTorn", inPlace := ["internal/abi.NoEscape", "internal/bytealg.MakeNoZero"], apart := false }
def ScanTornSaid : Prop := scanTornRow.holds Try.pinned (OpenSpec.ofChange scanTornSpec)

/-- ITS FALSE NEIGHBOUR: 'it returns false'. Refute it at one input. -/
def scanTornWrong : ChangeSpec := { name := "scanTorn", fn := fun _ => fun
  | [d1, d2, d3, d4] => { results := [.lit (.bool false)], args := [d1, d2, d3, d4] }
  | _ => none }
def ScanTornWrongFalsely : Prop := scanTornRow.holds Try.pinned (OpenSpec.ofChange scanTornWrong)

/- THE SECOND FORM. 'bulk': how many values and letters a reading holds, each counted each time it is reached (what is shared counts as often as it is met; a slice's spare places count too). A statement '..UptoSaid' is the law's where the arguments, and the package variables that the reading takes, are together of bulk at most 1048576: NARROWER than '..Said'. Prove '..Said' where nothing that the law and all that it calls make is longer than what came in: it says more and counts as full. Else prove '..UptoSaid'. A law counts once. -/
mutual
def uptoBulk {H : Type} : DataW H → Nat
  | .lit (.string bytes) => bytes.length + 1
  | .lit _ => 1
  | .nil => 1
  | .ptr d => uptoBulk d + 1
  | .slice elems spare => uptoBulkAll elems + uptoBulkAll spare + 1
  | .agg parts => uptoBulkAll parts + 1
  | .iface _ d => uptoBulk d + 1
  | .map entries => uptoBulkEntries entries + 1
  | .held _ => 1
def uptoBulkAll {H : Type} : List (DataW H) → Nat
  | [] => 0
  | d :: r => uptoBulk d + uptoBulkAll r
def uptoBulkEntries {H : Type} : List (Lit × DataW H) → Nat
  | [] => 0
  | x :: r => uptoBulkEntry x + uptoBulkEntries r
def uptoBulkEntry {H : Type} : Lit × DataW H → Nat
  | (.string bytes, d) => bytes.length + uptoBulk d + 1
  | (_, d) => uptoBulk d + 1
 end
def uptoSmall : (H : Type) → List (DataW H) → Bool := fun _ ds => decide (uptoBulkAll ds ≤ 1048576)
def OpenSpec.upto (s : _root_.Go.ChangeSpec) : _root_.Go.OpenSpec := { _root_.Go.OpenSpec.ofChange s with cond := some uptoSmall }

/-- 'cachepotlaw13.ScanImages', WHERE WHAT IT READS IS OF BULK AT MOST 1048576: true; the input reads as it did. -/
def scanImagesUptoRow : OpenClaim := { program := "ytecelmhiffcaeaa", sum := "7ba0aedf8f7d37015938ab9f45f262ce398eb1343f9b9225ac1d21477e4d06b9", func := "cachepot/cachepotlaw13.ScanImages", spec := "scanImages", inPlace := ["internal/abi.NoEscape", "internal/bytealg.MakeNoZero"], apart := false, narrowed := true }
def ScanImagesUptoSaid : Prop := scanImagesUptoRow.holds Try.pinned (OpenSpec.upto scanImagesSpec)

/-- 'cachepotlaw13.ScanPages', WHERE WHAT IT READS IS OF BULK AT MOST 1048576: true; the input reads as it did. -/
def scanPagesUptoRow : OpenClaim := { program := "ytecelmhiffcaeaa", sum := "7ba0aedf8f7d37015938ab9f45f262ce398eb1343f9b9225ac1d21477e4d06b9", func := "cachepot/cachepotlaw13.ScanPages", spec := "scanPages", inPlace := ["internal/abi.NoEscape", "internal/bytealg.MakeNoZero"], apart := false, narrowed := true }
def ScanPagesUptoSaid : Prop := scanPagesUptoRow.holds Try.pinned (OpenSpec.upto scanPagesSpec)

/-- 'cachepotlaw13.ScanDown', WHERE WHAT IT READS IS OF BULK AT MOST 1048576: true; the input reads as it did. -/
def scanDownUptoRow : OpenClaim := { program := "ytecelmhiffcaeaa", sum := "7ba0aedf8f7d37015938ab9f45f262ce398eb1343f9b9225ac1d21477e4d06b9", func := "cachepot/cachepotlaw13.ScanDown", spec := "scanDown", inPlace := ["internal/abi.NoEscape", "internal/bytealg.MakeNoZero"], apart := false, narrowed := true }
def ScanDownUptoSaid : Prop := scanDownUptoRow.holds Try.pinned (OpenSpec.upto scanDownSpec)

/-- 'cachepotlaw13.ScanTape', WHERE WHAT IT READS IS OF BULK AT MOST 1048576: true; the input reads as it did. -/
def scanTapeUptoRow : OpenClaim := { program := "ytecelmhiffcaeaa", sum := "7ba0aedf8f7d37015938ab9f45f262ce398eb1343f9b9225ac1d21477e4d06b9", func := "cachepot/cachepotlaw13.ScanTape", spec := "scanTape", inPlace := ["internal/abi.NoEscape", "internal/bytealg.MakeNoZero"], apart := false, narrowed := true }
def ScanTapeUptoSaid : Prop := scanTapeUptoRow.holds Try.pinned (OpenSpec.upto scanTapeSpec)

/-- 'cachepotlaw13.ScanTorn', WHERE WHAT IT READS IS OF BULK AT MOST 1048576: true; the input reads as it did. -/
def scanTornUptoRow : OpenClaim := { program := "ytecelmhiffcaeaa", sum := "7ba0aedf8f7d37015938ab9f45f262ce398eb1343f9b9225ac1d21477e4d06b9", func := "cachepot/cachepotlaw13.ScanTorn", spec := "scanTorn", inPlace := ["internal/abi.NoEscape", "internal/bytealg.MakeNoZero"], apart := false, narrowed := true }
def ScanTornUptoSaid : Prop := scanTornUptoRow.holds Try.pinned (OpenSpec.upto scanTornSpec)

end Rows
end Go.Proofs.Ytecelmhiffcaeaa
