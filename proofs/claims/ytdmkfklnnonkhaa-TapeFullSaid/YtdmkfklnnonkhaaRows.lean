/-
  No cell of these rows narrows 'for every input' (looked for: loops, veiled, ifaces, maps, wideKeys, modest, calm, conditions, laid).
  DERIVED. THE GIVEN ROWS OF THIS SEAT. 5 by the template 'for every input the law returns true; each argument reads behind the call as it read before'; 0 by the template 'total and deterministic' (their statements: YtdmkfklnnonkhaaTotals.lean).
  GIVEN WITH THE SEED: the statements are not yours to turn. If you find one false, say at which input.
  Laid BY PROGRAM, IN A SANDBOX (cutbox-rows.mjs): the forced cells as the released guide's own fill.sh prints them over the translation f85816c562a0006b… (all of the seat's roots in one cut). By AI agents, Wed Nov 11 2026. No macro, syntax, notation, axiom, sorry.
-/
import Derived.Test.YtdmkfklnnonkhaaChecked
import GoSem.Claim
import GoSem.ClaimJoined
import GoSem.ClaimMapViews
import Derived.JoinedTies
import Derived.KernelRfl
namespace Go.Proofs.Ytdmkfklnnonkhaa
/- THE CELL 'sum', in the pinned program and in every row, IS THE sha256 OF THE DUMP (.gsa) THAT YtdmkfklnnonkhaaProg.lean LOADS. Nothing in Lean hashes anything: it is a label: what it is worth is what the hold of that sum in a sandbox is worth. -/
noncomputable def Try.pinned : Pinned := { name := "ytdmkfklnnonkhaa", sum := "f85816c562a0006b728c77c812064ef69cc0ae742a6f98ed34cf6ee8bd063624", checked := Try.checked }
namespace Rows
def none {H : Type} : Left H := { results := [], args := [] }

/-- 'cachepotlaw12.TapeRefuses': WHATEVER THE INPUT: true; the input reads as it did. -/
def tapeRefusesSpec : ChangeSpec := { name := "tapeRefuses", fn := fun _ => fun
  | [d1, d2] => { results := [.lit (.bool true)], args := [d1, d2] }
  | _ => none }
def tapeRefusesRow : OpenClaim := { program := "ytdmkfklnnonkhaa", sum := "f85816c562a0006b728c77c812064ef69cc0ae742a6f98ed34cf6ee8bd063624", func := "cachepot/cachepotlaw12.TapeRefuses", spec := "tapeRefuses", inPlace := ["internal/abi.NoEscape", "internal/bytealg.MakeNoZero"], apart := false }
def TapeRefusesSaid : Prop := tapeRefusesRow.holds Try.pinned (OpenSpec.ofChange tapeRefusesSpec)

/-- ITS FALSE NEIGHBOUR: 'it returns false'. Refute it at one input. -/
def tapeRefusesWrong : ChangeSpec := { name := "tapeRefuses", fn := fun _ => fun
  | [d1, d2] => { results := [.lit (.bool false)], args := [d1, d2] }
  | _ => none }
def TapeRefusesWrongFalsely : Prop := tapeRefusesRow.holds Try.pinned (OpenSpec.ofChange tapeRefusesWrong)

/-- 'cachepotlaw12.TapeBlows': WHATEVER THE INPUT: true; the input reads as it did. -/
def tapeBlowsSpec : ChangeSpec := { name := "tapeBlows", fn := fun _ => fun
  | [d1, d2, d3] => { results := [.lit (.bool true)], args := [d1, d2, d3] }
  | _ => none }
def tapeBlowsRow : OpenClaim := { program := "ytdmkfklnnonkhaa", sum := "f85816c562a0006b728c77c812064ef69cc0ae742a6f98ed34cf6ee8bd063624", func := "cachepot/cachepotlaw12.TapeBlows", spec := "tapeBlows", inPlace := ["internal/abi.NoEscape", "internal/bytealg.MakeNoZero"], apart := false }
def TapeBlowsSaid : Prop := tapeBlowsRow.holds Try.pinned (OpenSpec.ofChange tapeBlowsSpec)

/-- ITS FALSE NEIGHBOUR: 'it returns false'. Refute it at one input. -/
def tapeBlowsWrong : ChangeSpec := { name := "tapeBlows", fn := fun _ => fun
  | [d1, d2, d3] => { results := [.lit (.bool false)], args := [d1, d2, d3] }
  | _ => none }
def TapeBlowsWrongFalsely : Prop := tapeBlowsRow.holds Try.pinned (OpenSpec.ofChange tapeBlowsWrong)

/-- 'cachepotlaw12.TapeLays': WHATEVER THE INPUT: true; the input reads as it did. -/
def tapeLaysSpec : ChangeSpec := { name := "tapeLays", fn := fun _ => fun
  | [d1, d2] => { results := [.lit (.bool true)], args := [d1, d2] }
  | _ => none }
def tapeLaysRow : OpenClaim := { program := "ytdmkfklnnonkhaa", sum := "f85816c562a0006b728c77c812064ef69cc0ae742a6f98ed34cf6ee8bd063624", func := "cachepot/cachepotlaw12.TapeLays", spec := "tapeLays", inPlace := ["internal/abi.NoEscape", "internal/bytealg.MakeNoZero"], apart := false }
def TapeLaysSaid : Prop := tapeLaysRow.holds Try.pinned (OpenSpec.ofChange tapeLaysSpec)

/-- ITS FALSE NEIGHBOUR: 'it returns false'. Refute it at one input. -/
def tapeLaysWrong : ChangeSpec := { name := "tapeLays", fn := fun _ => fun
  | [d1, d2] => { results := [.lit (.bool false)], args := [d1, d2] }
  | _ => none }
def TapeLaysWrongFalsely : Prop := tapeLaysRow.holds Try.pinned (OpenSpec.ofChange tapeLaysWrong)

/-- 'cachepotlaw12.TapeFull': WHATEVER THE INPUT: true; the input reads as it did. -/
def tapeFullSpec : ChangeSpec := { name := "tapeFull", fn := fun _ => fun
  | [d1, d2] => { results := [.lit (.bool true)], args := [d1, d2] }
  | _ => none }
def tapeFullRow : OpenClaim := { program := "ytdmkfklnnonkhaa", sum := "f85816c562a0006b728c77c812064ef69cc0ae742a6f98ed34cf6ee8bd063624", func := "cachepot/cachepotlaw12.TapeFull", spec := "tapeFull", inPlace := ["internal/abi.NoEscape", "internal/bytealg.MakeNoZero"], apart := false }
def TapeFullSaid : Prop := tapeFullRow.holds Try.pinned (OpenSpec.ofChange tapeFullSpec)

/-- ITS FALSE NEIGHBOUR: 'it returns false'. Refute it at one input. -/
def tapeFullWrong : ChangeSpec := { name := "tapeFull", fn := fun _ => fun
  | [d1, d2] => { results := [.lit (.bool false)], args := [d1, d2] }
  | _ => none }
def TapeFullWrongFalsely : Prop := tapeFullRow.holds Try.pinned (OpenSpec.ofChange tapeFullWrong)

/-- 'cachepotlaw12.TapeApart': WHATEVER THE INPUT: true; the input reads as it did. -/
def tapeApartSpec : ChangeSpec := { name := "tapeApart", fn := fun _ => fun
  | [d1, d2] => { results := [.lit (.bool true)], args := [d1, d2] }
  | _ => none }
def tapeApartRow : OpenClaim := { program := "ytdmkfklnnonkhaa", sum := "f85816c562a0006b728c77c812064ef69cc0ae742a6f98ed34cf6ee8bd063624", func := "cachepot/cachepotlaw12.TapeApart", spec := "tapeApart", inPlace := ["internal/abi.NoEscape", "internal/bytealg.MakeNoZero"], apart := false }
def TapeApartSaid : Prop := tapeApartRow.holds Try.pinned (OpenSpec.ofChange tapeApartSpec)

/-- ITS FALSE NEIGHBOUR: 'it returns false'. Refute it at one input. -/
def tapeApartWrong : ChangeSpec := { name := "tapeApart", fn := fun _ => fun
  | [d1, d2] => { results := [.lit (.bool false)], args := [d1, d2] }
  | _ => none }
def TapeApartWrongFalsely : Prop := tapeApartRow.holds Try.pinned (OpenSpec.ofChange tapeApartWrong)

/- THE SECOND FORM. 'bulk': how many values and letters a reading holds, each counted each time it is reached (what is shared counts as often as it is met; a slice's spare places count too). A statement '..UptoSaid' is the law's where the arguments, and the package variables that the reading takes, are together of bulk at most 1048576: NARROWER than '..Said'. Prove '..Said' where nothing that the law and all that it calls make is longer than what came in: it says more and counts as full. Else prove '..UptoSaid'. A law counts once. -/
mutual
def uptoBulk {H : Type} : DataW H → Nat
  | .lit (.string bytes) => bytes.length + 1
  | .lit _ => 1
  | .nil => 1
  | .ptr d => uptoBulk d + 1
  | .slice elems spare => uptoBulkAll elems + uptoBulkAll spare + 1
  | .agg parts => uptoBulkAll parts + 1
  | .iface _ d => uptoBulk d + 1
  | .map entries => uptoBulkEntries entries + 1
  | .held _ => 1
def uptoBulkAll {H : Type} : List (DataW H) → Nat
  | [] => 0
  | d :: r => uptoBulk d + uptoBulkAll r
def uptoBulkEntries {H : Type} : List (Lit × DataW H) → Nat
  | [] => 0
  | x :: r => uptoBulkEntry x + uptoBulkEntries r
def uptoBulkEntry {H : Type} : Lit × DataW H → Nat
  | (.string bytes, d) => bytes.length + uptoBulk d + 1
  | (_, d) => uptoBulk d + 1
 end
def uptoSmall : (H : Type) → List (DataW H) → Bool := fun _ ds => decide (uptoBulkAll ds ≤ 1048576)
def OpenSpec.upto (s : _root_.Go.ChangeSpec) : _root_.Go.OpenSpec := { _root_.Go.OpenSpec.ofChange s with cond := some uptoSmall }

/-- 'cachepotlaw12.TapeRefuses', WHERE WHAT IT READS IS OF BULK AT MOST 1048576: true; the input reads as it did. -/
def tapeRefusesUptoRow : OpenClaim := { program := "ytdmkfklnnonkhaa", sum := "f85816c562a0006b728c77c812064ef69cc0ae742a6f98ed34cf6ee8bd063624", func := "cachepot/cachepotlaw12.TapeRefuses", spec := "tapeRefuses", inPlace := ["internal/abi.NoEscape", "internal/bytealg.MakeNoZero"], apart := false, narrowed := true }
def TapeRefusesUptoSaid : Prop := tapeRefusesUptoRow.holds Try.pinned (OpenSpec.upto tapeRefusesSpec)

/-- 'cachepotlaw12.TapeBlows', WHERE WHAT IT READS IS OF BULK AT MOST 1048576: true; the input reads as it did. -/
def tapeBlowsUptoRow : OpenClaim := { program := "ytdmkfklnnonkhaa", sum := "f85816c562a0006b728c77c812064ef69cc0ae742a6f98ed34cf6ee8bd063624", func := "cachepot/cachepotlaw12.TapeBlows", spec := "tapeBlows", inPlace := ["internal/abi.NoEscape", "internal/bytealg.MakeNoZero"], apart := false, narrowed := true }
def TapeBlowsUptoSaid : Prop := tapeBlowsUptoRow.holds Try.pinned (OpenSpec.upto tapeBlowsSpec)

/-- 'cachepotlaw12.TapeLays', WHERE WHAT IT READS IS OF BULK AT MOST 1048576: true; the input reads as it did. -/
def tapeLaysUptoRow : OpenClaim := { program := "ytdmkfklnnonkhaa", sum := "f85816c562a0006b728c77c812064ef69cc0ae742a6f98ed34cf6ee8bd063624", func := "cachepot/cachepotlaw12.TapeLays", spec := "tapeLays", inPlace := ["internal/abi.NoEscape", "internal/bytealg.MakeNoZero"], apart := false, narrowed := true }
def TapeLaysUptoSaid : Prop := tapeLaysUptoRow.holds Try.pinned (OpenSpec.upto tapeLaysSpec)

/-- 'cachepotlaw12.TapeFull', WHERE WHAT IT READS IS OF BULK AT MOST 1048576: true; the input reads as it did. -/
def tapeFullUptoRow : OpenClaim := { program := "ytdmkfklnnonkhaa", sum := "f85816c562a0006b728c77c812064ef69cc0ae742a6f98ed34cf6ee8bd063624", func := "cachepot/cachepotlaw12.TapeFull", spec := "tapeFull", inPlace := ["internal/abi.NoEscape", "internal/bytealg.MakeNoZero"], apart := false, narrowed := true }
def TapeFullUptoSaid : Prop := tapeFullUptoRow.holds Try.pinned (OpenSpec.upto tapeFullSpec)

/-- 'cachepotlaw12.TapeApart', WHERE WHAT IT READS IS OF BULK AT MOST 1048576: true; the input reads as it did. -/
def tapeApartUptoRow : OpenClaim := { program := "ytdmkfklnnonkhaa", sum := "f85816c562a0006b728c77c812064ef69cc0ae742a6f98ed34cf6ee8bd063624", func := "cachepot/cachepotlaw12.TapeApart", spec := "tapeApart", inPlace := ["internal/abi.NoEscape", "internal/bytealg.MakeNoZero"], apart := false, narrowed := true }
def TapeApartUptoSaid : Prop := tapeApartUptoRow.holds Try.pinned (OpenSpec.upto tapeApartSpec)

end Rows
end Go.Proofs.Ytdmkfklnnonkhaa
