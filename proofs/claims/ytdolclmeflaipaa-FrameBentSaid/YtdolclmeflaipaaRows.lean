/-
  No cell of these rows narrows 'for every input' (looked for: loops, veiled, ifaces, maps, wideKeys, modest, calm, conditions, laid).
  DERIVED. THE GIVEN ROWS OF THIS SEAT. 7 by the template 'for every input the law returns true; each argument reads behind the call as it read before'; 0 by the template 'total and deterministic' (their statements: YtdolclmeflaipaaTotals.lean).
  GIVEN WITH THE SEED: the statements are not yours to turn. If you find one false, say at which input.
  Laid BY PROGRAM, IN A SANDBOX (cutbox-rows.mjs): the forced cells as the released guide's own fill.sh prints them over the translation 52dafcc3579ddbf1… (all of the seat's roots in one cut). By AI agents, Wed Nov 11 2026. No macro, syntax, notation, axiom, sorry.
-/
import Derived.Test.YtdolclmeflaipaaChecked
import GoSem.Claim
import GoSem.ClaimJoined
import GoSem.ClaimMapViews
import Derived.JoinedTies
import Derived.KernelRfl
namespace Go.Proofs.Ytdolclmeflaipaa
/- THE CELL 'sum', in the pinned program and in every row, IS THE sha256 OF THE DUMP (.gsa) THAT YtdolclmeflaipaaProg.lean LOADS. Nothing in Lean hashes anything: it is a label: what it is worth is what the hold of that sum in a sandbox is worth. -/
noncomputable def Try.pinned : Pinned := { name := "ytdolclmeflaipaa", sum := "52dafcc3579ddbf10d7123e429e3f0c3c29626e3c82b10a48ee476b70ffdb824", checked := Try.checked }
namespace Rows
def none {H : Type} : Left H := { results := [], args := [] }

/-- 'cachepotlaw8.FrameLays': WHATEVER THE INPUT: true; the input reads as it did. -/
def frameLaysSpec : ChangeSpec := { name := "frameLays", fn := fun _ => fun
  | [d1, d2, d3] => { results := [.lit (.bool true)], args := [d1, d2, d3] }
  | _ => none }
def frameLaysRow : OpenClaim := { program := "ytdolclmeflaipaa", sum := "52dafcc3579ddbf10d7123e429e3f0c3c29626e3c82b10a48ee476b70ffdb824", func := "cachepot/cachepotlaw8.FrameLays", spec := "frameLays", inPlace := ["internal/abi.NoEscape", "internal/bytealg.MakeNoZero"], apart := false }
def FrameLaysSaid : Prop := frameLaysRow.holds Try.pinned (OpenSpec.ofChange frameLaysSpec)

/-- ITS FALSE NEIGHBOUR: 'it returns false'. Refute it at one input. -/
def frameLaysWrong : ChangeSpec := { name := "frameLays", fn := fun _ => fun
  | [d1, d2, d3] => { results := [.lit (.bool false)], args := [d1, d2, d3] }
  | _ => none }
def FrameLaysWrongFalsely : Prop := frameLaysRow.holds Try.pinned (OpenSpec.ofChange frameLaysWrong)

/-- 'cachepotlaw8.FrameReads': WHATEVER THE INPUT: true; the input reads as it did. -/
def frameReadsSpec : ChangeSpec := { name := "frameReads", fn := fun _ => fun
  | [d1, d2, d3] => { results := [.lit (.bool true)], args := [d1, d2, d3] }
  | _ => none }
def frameReadsRow : OpenClaim := { program := "ytdolclmeflaipaa", sum := "52dafcc3579ddbf10d7123e429e3f0c3c29626e3c82b10a48ee476b70ffdb824", func := "cachepot/cachepotlaw8.FrameReads", spec := "frameReads", inPlace := ["internal/abi.NoEscape", "internal/bytealg.MakeNoZero"], apart := false }
def FrameReadsSaid : Prop := frameReadsRow.holds Try.pinned (OpenSpec.ofChange frameReadsSpec)

/-- ITS FALSE NEIGHBOUR: 'it returns false'. Refute it at one input. -/
def frameReadsWrong : ChangeSpec := { name := "frameReads", fn := fun _ => fun
  | [d1, d2, d3] => { results := [.lit (.bool false)], args := [d1, d2, d3] }
  | _ => none }
def FrameReadsWrongFalsely : Prop := frameReadsRow.holds Try.pinned (OpenSpec.ofChange frameReadsWrong)

/-- 'cachepotlaw8.FrameBack': WHATEVER THE INPUT: true; the input reads as it did. -/
def frameBackSpec : ChangeSpec := { name := "frameBack", fn := fun _ => fun
  | [d1, d2] => { results := [.lit (.bool true)], args := [d1, d2] }
  | _ => none }
def frameBackRow : OpenClaim := { program := "ytdolclmeflaipaa", sum := "52dafcc3579ddbf10d7123e429e3f0c3c29626e3c82b10a48ee476b70ffdb824", func := "cachepot/cachepotlaw8.FrameBack", spec := "frameBack", inPlace := ["internal/abi.NoEscape", "internal/bytealg.MakeNoZero"], apart := false }
def FrameBackSaid : Prop := frameBackRow.holds Try.pinned (OpenSpec.ofChange frameBackSpec)

/-- ITS FALSE NEIGHBOUR: 'it returns false'. Refute it at one input. -/
def frameBackWrong : ChangeSpec := { name := "frameBack", fn := fun _ => fun
  | [d1, d2] => { results := [.lit (.bool false)], args := [d1, d2] }
  | _ => none }
def FrameBackWrongFalsely : Prop := frameBackRow.holds Try.pinned (OpenSpec.ofChange frameBackWrong)

/-- 'cachepotlaw8.FrameBent': WHATEVER THE INPUT: true; the input reads as it did. -/
def frameBentSpec : ChangeSpec := { name := "frameBent", fn := fun _ => fun
  | [d1, d2, d3, d4, d5] => { results := [.lit (.bool true)], args := [d1, d2, d3, d4, d5] }
  | _ => none }
def frameBentRow : OpenClaim := { program := "ytdolclmeflaipaa", sum := "52dafcc3579ddbf10d7123e429e3f0c3c29626e3c82b10a48ee476b70ffdb824", func := "cachepot/cachepotlaw8.FrameBent", spec := "frameBent", inPlace := ["internal/abi.NoEscape", "internal/bytealg.MakeNoZero"], apart := false }
def FrameBentSaid : Prop := frameBentRow.holds Try.pinned (OpenSpec.ofChange frameBentSpec)

/-- ITS FALSE NEIGHBOUR: 'it returns false'. Refute it at one input. -/
def frameBentWrong : ChangeSpec := { name := "frameBent", fn := fun _ => fun
  | [d1, d2, d3, d4, d5] => { results := [.lit (.bool false)], args := [d1, d2, d3, d4, d5] }
  | _ => none }
def FrameBentWrongFalsely : Prop := frameBentRow.holds Try.pinned (OpenSpec.ofChange frameBentWrong)

/-- 'cachepotlaw8.FrameTurned': WHATEVER THE INPUT: true; the input reads as it did. -/
def frameTurnedSpec : ChangeSpec := { name := "frameTurned", fn := fun _ => fun
  | [d1, d2, d3, d4] => { results := [.lit (.bool true)], args := [d1, d2, d3, d4] }
  | _ => none }
def frameTurnedRow : OpenClaim := { program := "ytdolclmeflaipaa", sum := "52dafcc3579ddbf10d7123e429e3f0c3c29626e3c82b10a48ee476b70ffdb824", func := "cachepot/cachepotlaw8.FrameTurned", spec := "frameTurned", inPlace := ["internal/abi.NoEscape", "internal/bytealg.MakeNoZero"], apart := false }
def FrameTurnedSaid : Prop := frameTurnedRow.holds Try.pinned (OpenSpec.ofChange frameTurnedSpec)

/-- ITS FALSE NEIGHBOUR: 'it returns false'. Refute it at one input. -/
def frameTurnedWrong : ChangeSpec := { name := "frameTurned", fn := fun _ => fun
  | [d1, d2, d3, d4] => { results := [.lit (.bool false)], args := [d1, d2, d3, d4] }
  | _ => none }
def FrameTurnedWrongFalsely : Prop := frameTurnedRow.holds Try.pinned (OpenSpec.ofChange frameTurnedWrong)

/-- 'cachepotlaw8.FrameTorn': WHATEVER THE INPUT: true; the input reads as it did. -/
def frameTornSpec : ChangeSpec := { name := "frameTorn", fn := fun _ => fun
  | [d1, d2, d3] => { results := [.lit (.bool true)], args := [d1, d2, d3] }
  | _ => none }
def frameTornRow : OpenClaim := { program := "ytdolclmeflaipaa", sum := "52dafcc3579ddbf10d7123e429e3f0c3c29626e3c82b10a48ee476b70ffdb824", func := "cachepot/cachepotlaw8.FrameTorn", spec := "frameTorn", inPlace := ["internal/abi.NoEscape", "internal/bytealg.MakeNoZero"], apart := false }
def FrameTornSaid : Prop := frameTornRow.holds Try.pinned (OpenSpec.ofChange frameTornSpec)

/-- ITS FALSE NEIGHBOUR: 'it returns false'. Refute it at one input. -/
def frameTornWrong : ChangeSpec := { name := "frameTorn", fn := fun _ => fun
  | [d1, d2, d3] => { results := [.lit (.bool false)], args := [d1, d2, d3] }
  | _ => none }
def FrameTornWrongFalsely : Prop := frameTornRow.holds Try.pinned (OpenSpec.ofChange frameTornWrong)

/-- 'cachepotlaw8.FrameRoom': WHATEVER THE INPUT: true; the input reads as it did. -/
def frameRoomSpec : ChangeSpec := { name := "frameRoom", fn := fun _ => fun
  | [d1, d2, d3, d4] => { results := [.lit (.bool true)], args := [d1, d2, d3, d4] }
  | _ => none }
def frameRoomRow : OpenClaim := { program := "ytdolclmeflaipaa", sum := "52dafcc3579ddbf10d7123e429e3f0c3c29626e3c82b10a48ee476b70ffdb824", func := "cachepot/cachepotlaw8.FrameRoom", spec := "frameRoom", inPlace := ["internal/abi.NoEscape", "internal/bytealg.MakeNoZero"], apart := false }
def FrameRoomSaid : Prop := frameRoomRow.holds Try.pinned (OpenSpec.ofChange frameRoomSpec)

/-- ITS FALSE NEIGHBOUR: 'it returns false'. Refute it at one input. -/
def frameRoomWrong : ChangeSpec := { name := "frameRoom", fn := fun _ => fun
  | [d1, d2, d3, d4] => { results := [.lit (.bool false)], args := [d1, d2, d3, d4] }
  | _ => none }
def FrameRoomWrongFalsely : Prop := frameRoomRow.holds Try.pinned (OpenSpec.ofChange frameRoomWrong)

/- THE SECOND FORM. 'bulk': how many values and letters a reading holds, each counted each time it is reached (what is shared counts as often as it is met; a slice's spare places count too). A statement '..UptoSaid' is the law's where the arguments, and the package variables that the reading takes, are together of bulk at most 1048576: NARROWER than '..Said'. Prove '..Said' where nothing that the law and all that it calls make is longer than what came in: it says more and counts as full. Else prove '..UptoSaid'. A law counts once. -/
mutual
def uptoBulk {H : Type} : DataW H → Nat
  | .lit (.string bytes) => bytes.length + 1
  | .lit _ => 1
  | .nil => 1
  | .ptr d => uptoBulk d + 1
  | .slice elems spare => uptoBulkAll elems + uptoBulkAll spare + 1
  | .agg parts => uptoBulkAll parts + 1
  | .iface _ d => uptoBulk d + 1
  | .map entries => uptoBulkEntries entries + 1
  | .held _ => 1
def uptoBulkAll {H : Type} : List (DataW H) → Nat
  | [] => 0
  | d :: r => uptoBulk d + uptoBulkAll r
def uptoBulkEntries {H : Type} : List (Lit × DataW H) → Nat
  | [] => 0
  | x :: r => uptoBulkEntry x + uptoBulkEntries r
def uptoBulkEntry {H : Type} : Lit × DataW H → Nat
  | (.string bytes, d) => bytes.length + uptoBulk d + 1
  | (_, d) => uptoBulk d + 1
 end
def uptoSmall : (H : Type) → List (DataW H) → Bool := fun _ ds => decide (uptoBulkAll ds ≤ 1048576)
def OpenSpec.upto (s : _root_.Go.ChangeSpec) : _root_.Go.OpenSpec := { _root_.Go.OpenSpec.ofChange s with cond := some uptoSmall }

/-- 'cachepotlaw8.FrameLays', WHERE WHAT IT READS IS OF BULK AT MOST 1048576: true; the input reads as it did. -/
def frameLaysUptoRow : OpenClaim := { program := "ytdolclmeflaipaa", sum := "52dafcc3579ddbf10d7123e429e3f0c3c29626e3c82b10a48ee476b70ffdb824", func := "cachepot/cachepotlaw8.FrameLays", spec := "frameLays", inPlace := ["internal/abi.NoEscape", "internal/bytealg.MakeNoZero"], apart := false, narrowed := true }
def FrameLaysUptoSaid : Prop := frameLaysUptoRow.holds Try.pinned (OpenSpec.upto frameLaysSpec)

/-- 'cachepotlaw8.FrameReads', WHERE WHAT IT READS IS OF BULK AT MOST 1048576: true; the input reads as it did. -/
def frameReadsUptoRow : OpenClaim := { program := "ytdolclmeflaipaa", sum := "52dafcc3579ddbf10d7123e429e3f0c3c29626e3c82b10a48ee476b70ffdb824", func := "cachepot/cachepotlaw8.FrameReads", spec := "frameReads", inPlace := ["internal/abi.NoEscape", "internal/bytealg.MakeNoZero"], apart := false, narrowed := true }
def FrameReadsUptoSaid : Prop := frameReadsUptoRow.holds Try.pinned (OpenSpec.upto frameReadsSpec)

/-- 'cachepotlaw8.FrameBack', WHERE WHAT IT READS IS OF BULK AT MOST 1048576: true; the input reads as it did. -/
def frameBackUptoRow : OpenClaim := { program := "ytdolclmeflaipaa", sum := "52dafcc3579ddbf10d7123e429e3f0c3c29626e3c82b10a48ee476b70ffdb824", func := "cachepot/cachepotlaw8.FrameBack", spec := "frameBack", inPlace := ["internal/abi.NoEscape", "internal/bytealg.MakeNoZero"], apart := false, narrowed := true }
def FrameBackUptoSaid : Prop := frameBackUptoRow.holds Try.pinned (OpenSpec.upto frameBackSpec)

/-- 'cachepotlaw8.FrameBent', WHERE WHAT IT READS IS OF BULK AT MOST 1048576: true; the input reads as it did. -/
def frameBentUptoRow : OpenClaim := { program := "ytdolclmeflaipaa", sum := "52dafcc3579ddbf10d7123e429e3f0c3c29626e3c82b10a48ee476b70ffdb824", func := "cachepot/cachepotlaw8.FrameBent", spec := "frameBent", inPlace := ["internal/abi.NoEscape", "internal/bytealg.MakeNoZero"], apart := false, narrowed := true }
def FrameBentUptoSaid : Prop := frameBentUptoRow.holds Try.pinned (OpenSpec.upto frameBentSpec)

/-- 'cachepotlaw8.FrameTurned', WHERE WHAT IT READS IS OF BULK AT MOST 1048576: true; the input reads as it did. -/
def frameTurnedUptoRow : OpenClaim := { program := "ytdolclmeflaipaa", sum := "52dafcc3579ddbf10d7123e429e3f0c3c29626e3c82b10a48ee476b70ffdb824", func := "cachepot/cachepotlaw8.FrameTurned", spec := "frameTurned", inPlace := ["internal/abi.NoEscape", "internal/bytealg.MakeNoZero"], apart := false, narrowed := true }
def FrameTurnedUptoSaid : Prop := frameTurnedUptoRow.holds Try.pinned (OpenSpec.upto frameTurnedSpec)

/-- 'cachepotlaw8.FrameTorn', WHERE WHAT IT READS IS OF BULK AT MOST 1048576: true; the input reads as it did. -/
def frameTornUptoRow : OpenClaim := { program := "ytdolclmeflaipaa", sum := "52dafcc3579ddbf10d7123e429e3f0c3c29626e3c82b10a48ee476b70ffdb824", func := "cachepot/cachepotlaw8.FrameTorn", spec := "frameTorn", inPlace := ["internal/abi.NoEscape", "internal/bytealg.MakeNoZero"], apart := false, narrowed := true }
def FrameTornUptoSaid : Prop := frameTornUptoRow.holds Try.pinned (OpenSpec.upto frameTornSpec)

/-- 'cachepotlaw8.FrameRoom', WHERE WHAT IT READS IS OF BULK AT MOST 1048576: true; the input reads as it did. -/
def frameRoomUptoRow : OpenClaim := { program := "ytdolclmeflaipaa", sum := "52dafcc3579ddbf10d7123e429e3f0c3c29626e3c82b10a48ee476b70ffdb824", func := "cachepot/cachepotlaw8.FrameRoom", spec := "frameRoom", inPlace := ["internal/abi.NoEscape", "internal/bytealg.MakeNoZero"], apart := false, narrowed := true }
def FrameRoomUptoSaid : Prop := frameRoomUptoRow.holds Try.pinned (OpenSpec.upto frameRoomSpec)

end Rows
end Go.Proofs.Ytdolclmeflaipaa
