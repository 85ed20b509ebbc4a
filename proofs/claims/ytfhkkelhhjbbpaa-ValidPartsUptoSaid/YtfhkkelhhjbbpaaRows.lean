/-
  No cell of these rows narrows 'for every input' (looked for: loops, veiled, ifaces, maps, wideKeys, modest, calm, conditions, laid).
  DERIVED. THE GIVEN ROWS OF THIS SEAT. 5 by the template 'for every input the law returns true; each argument reads behind the call as it read before'; 0 by the template 'total and deterministic' (their statements: YtfhkkelhhjbbpaaTotals.lean).
  GIVEN WITH THE SEED: the statements are not yours to turn. If you find one false, say at which input.
  Laid BY PROGRAM, IN A SANDBOX (cutbox-rows.mjs): the forced cells as the released guide's own fill.sh prints them over the translation 92deb4f475f0a95d… (all of the seat's roots in one cut). By AI agents, Wed Nov 11 2026. No macro, syntax, notation, axiom, sorry.
-/
import Derived.Test.YtfhkkelhhjbbpaaChecked
import GoSem.Claim
import GoSem.ClaimJoined
import GoSem.ClaimMapViews
import Derived.JoinedTies
import Derived.KernelRfl
namespace Go.Proofs.Ytfhkkelhhjbbpaa
/- THE CELL 'sum', in the pinned program and in every row, IS THE sha256 OF THE DUMP (.gsa) THAT YtfhkkelhhjbbpaaProg.lean LOADS. Nothing in Lean hashes anything: it is a label: what it is worth is what the hold of that sum in a sandbox is worth. -/
noncomputable def Try.pinned : Pinned := { name := "ytfhkkelhhjbbpaa", sum := "92deb4f475f0a95d3e09993b3c653e70c5af0119d5bf17e9178c34cf437bec93", checked := Try.checked }
namespace Rows
def none {H : Type} : Left H := { results := [], args := [] }

/-- 'cachepotlaw23.ValidClashes': WHATEVER THE INPUT: true; the input reads as it did. -/
def validClashesSpec : ChangeSpec := { name := "validClashes", fn := fun _ => fun
  | [d1, d2, d3, d4] => { results := [.lit (.bool true)], args := [d1, d2, d3, d4] }
  | _ => none }
def validClashesRow : OpenClaim := { program := "ytfhkkelhhjbbpaa", sum := "92deb4f475f0a95d3e09993b3c653e70c5af0119d5bf17e9178c34cf437bec93", func := "cachepot/cachepotlaw23.ValidClashes", spec := "validClashes", apart := false }
def ValidClashesSaid : Prop := validClashesRow.holds Try.pinned (OpenSpec.ofChange validClashesSpec)

/-- ITS FALSE NEIGHBOUR: 'it returns false'. Refute it at one input. -/
def validClashesWrong : ChangeSpec := { name := "validClashes", fn := fun _ => fun
  | [d1, d2, d3, d4] => { results := [.lit (.bool false)], args := [d1, d2, d3, d4] }
  | _ => none }
def ValidClashesWrongFalsely : Prop := validClashesRow.holds Try.pinned (OpenSpec.ofChange validClashesWrong)

/-- 'cachepotlaw23.ValidSame': WHATEVER THE INPUT: true; the input reads as it did. -/
def validSameSpec : ChangeSpec := { name := "validSame", fn := fun _ => fun
  | [d1, d2, d3, d4] => { results := [.lit (.bool true)], args := [d1, d2, d3, d4] }
  | _ => none }
def validSameRow : OpenClaim := { program := "ytfhkkelhhjbbpaa", sum := "92deb4f475f0a95d3e09993b3c653e70c5af0119d5bf17e9178c34cf437bec93", func := "cachepot/cachepotlaw23.ValidSame", spec := "validSame", apart := false }
def ValidSameSaid : Prop := validSameRow.holds Try.pinned (OpenSpec.ofChange validSameSpec)

/-- ITS FALSE NEIGHBOUR: 'it returns false'. Refute it at one input. -/
def validSameWrong : ChangeSpec := { name := "validSame", fn := fun _ => fun
  | [d1, d2, d3, d4] => { results := [.lit (.bool false)], args := [d1, d2, d3, d4] }
  | _ => none }
def ValidSameWrongFalsely : Prop := validSameRow.holds Try.pinned (OpenSpec.ofChange validSameWrong)

/-- 'cachepotlaw23.ValidForgets': WHATEVER THE INPUT: true; the input reads as it did. -/
def validForgetsSpec : ChangeSpec := { name := "validForgets", fn := fun _ => fun
  | [d1, d2] => { results := [.lit (.bool true)], args := [d1, d2] }
  | _ => none }
def validForgetsRow : OpenClaim := { program := "ytfhkkelhhjbbpaa", sum := "92deb4f475f0a95d3e09993b3c653e70c5af0119d5bf17e9178c34cf437bec93", func := "cachepot/cachepotlaw23.ValidForgets", spec := "validForgets", apart := false }
def ValidForgetsSaid : Prop := validForgetsRow.holds Try.pinned (OpenSpec.ofChange validForgetsSpec)

/-- ITS FALSE NEIGHBOUR: 'it returns false'. Refute it at one input. -/
def validForgetsWrong : ChangeSpec := { name := "validForgets", fn := fun _ => fun
  | [d1, d2] => { results := [.lit (.bool false)], args := [d1, d2] }
  | _ => none }
def ValidForgetsWrongFalsely : Prop := validForgetsRow.holds Try.pinned (OpenSpec.ofChange validForgetsWrong)

/-- 'cachepotlaw23.ValidShort': WHATEVER THE INPUT: true; the input reads as it did. -/
def validShortSpec : ChangeSpec := { name := "validShort", fn := fun _ => fun
  | [d1, d2, d3, d4] => { results := [.lit (.bool true)], args := [d1, d2, d3, d4] }
  | _ => none }
def validShortRow : OpenClaim := { program := "ytfhkkelhhjbbpaa", sum := "92deb4f475f0a95d3e09993b3c653e70c5af0119d5bf17e9178c34cf437bec93", func := "cachepot/cachepotlaw23.ValidShort", spec := "validShort", apart := false }
def ValidShortSaid : Prop := validShortRow.holds Try.pinned (OpenSpec.ofChange validShortSpec)

/-- ITS FALSE NEIGHBOUR: 'it returns false'. Refute it at one input. -/
def validShortWrong : ChangeSpec := { name := "validShort", fn := fun _ => fun
  | [d1, d2, d3, d4] => { results := [.lit (.bool false)], args := [d1, d2, d3, d4] }
  | _ => none }
def ValidShortWrongFalsely : Prop := validShortRow.holds Try.pinned (OpenSpec.ofChange validShortWrong)

/-- 'cachepotlaw23.ValidParts': WHATEVER THE INPUT: true; the input reads as it did. -/
def validPartsSpec : ChangeSpec := { name := "validParts", fn := fun _ => fun
  | [d1, d2, d3, d4] => { results := [.lit (.bool true)], args := [d1, d2, d3, d4] }
  | _ => none }
def validPartsRow : OpenClaim := { program := "ytfhkkelhhjbbpaa", sum := "92deb4f475f0a95d3e09993b3c653e70c5af0119d5bf17e9178c34cf437bec93", func := "cachepot/cachepotlaw23.ValidParts", spec := "validParts", apart := false }
def ValidPartsSaid : Prop := validPartsRow.holds Try.pinned (OpenSpec.ofChange validPartsSpec)

/-- ITS FALSE NEIGHBOUR: 'it returns false'. Refute it at one input. -/
def validPartsWrong : ChangeSpec := { name := "validParts", fn := fun _ => fun
  | [d1, d2, d3, d4] => { results := [.lit (.bool false)], args := [d1, d2, d3, d4] }
  | _ => none }
def ValidPartsWrongFalsely : Prop := validPartsRow.holds Try.pinned (OpenSpec.ofChange validPartsWrong)

/- THE SECOND FORM. 'bulk': how many values and letters a reading holds, each counted each time it is reached (what is shared counts as often as it is met; a slice's spare places count too). A statement '..UptoSaid' is the law's where the arguments, and the package variables that the reading takes, are together of bulk at most 1048576: NARROWER than '..Said'. Prove '..Said' where nothing that the law and all that it calls make is longer than what came in: it says more and counts as full. Else prove '..UptoSaid'. A law counts once. -/
mutual
def uptoBulk {H : Type} : DataW H → Nat
  | .lit (.string bytes) => bytes.length + 1
  | .lit _ => 1
  | .nil => 1
  | .ptr d => uptoBulk d + 1
  | .slice elems spare => uptoBulkAll elems + uptoBulkAll spare + 1
  | .agg parts => uptoBulkAll parts + 1
  | .iface _ d => uptoBulk d + 1
  | .map entries => uptoBulkEntries entries + 1
  | .held _ => 1
def uptoBulkAll {H : Type} : List (DataW H) → Nat
  | [] => 0
  | d :: r => uptoBulk d + uptoBulkAll r
def uptoBulkEntries {H : Type} : List (Lit × DataW H) → Nat
  | [] => 0
  | x :: r => uptoBulkEntry x + uptoBulkEntries r
def uptoBulkEntry {H : Type} : Lit × DataW H → Nat
  | (.string bytes, d) => bytes.length + uptoBulk d + 1
  | (_, d) => uptoBulk d + 1
 end
def uptoSmall : (H : Type) → List (DataW H) → Bool := fun _ ds => decide (uptoBulkAll ds ≤ 1048576)
def OpenSpec.upto (s : _root_.Go.ChangeSpec) : _root_.Go.OpenSpec := { _root_.Go.OpenSpec.ofChange s with cond := some uptoSmall }

/-- 'cachepotlaw23.ValidClashes', WHERE WHAT IT READS IS OF BULK AT MOST 1048576: true; the input reads as it did. -/
def validClashesUptoRow : OpenClaim := { program := "ytfhkkelhhjbbpaa", sum := "92deb4f475f0a95d3e09993b3c653e70c5af0119d5bf17e9178c34cf437bec93", func := "cachepot/cachepotlaw23.ValidClashes", spec := "validClashes", apart := false, narrowed := true }
def ValidClashesUptoSaid : Prop := validClashesUptoRow.holds Try.pinned (OpenSpec.upto validClashesSpec)

/-- 'cachepotlaw23.ValidSame', WHERE WHAT IT READS IS OF BULK AT MOST 1048576: true; the input reads as it did. -/
def validSameUptoRow : OpenClaim := { program := "ytfhkkelhhjbbpaa", sum := "92deb4f475f0a95d3e09993b3c653e70c5af0119d5bf17e9178c34cf437bec93", func := "cachepot/cachepotlaw23.ValidSame", spec := "validSame", apart := false, narrowed := true }
def ValidSameUptoSaid : Prop := validSameUptoRow.holds Try.pinned (OpenSpec.upto validSameSpec)

/-- 'cachepotlaw23.ValidForgets', WHERE WHAT IT READS IS OF BULK AT MOST 1048576: true; the input reads as it did. -/
def validForgetsUptoRow : OpenClaim := { program := "ytfhkkelhhjbbpaa", sum := "92deb4f475f0a95d3e09993b3c653e70c5af0119d5bf17e9178c34cf437bec93", func := "cachepot/cachepotlaw23.ValidForgets", spec := "validForgets", apart := false, narrowed := true }
def ValidForgetsUptoSaid : Prop := validForgetsUptoRow.holds Try.pinned (OpenSpec.upto validForgetsSpec)

/-- 'cachepotlaw23.ValidShort', WHERE WHAT IT READS IS OF BULK AT MOST 1048576: true; the input reads as it did. -/
def validShortUptoRow : OpenClaim := { program := "ytfhkkelhhjbbpaa", sum := "92deb4f475f0a95d3e09993b3c653e70c5af0119d5bf17e9178c34cf437bec93", func := "cachepot/cachepotlaw23.ValidShort", spec := "validShort", apart := false, narrowed := true }
def ValidShortUptoSaid : Prop := validShortUptoRow.holds Try.pinned (OpenSpec.upto validShortSpec)

/-- 'cachepotlaw23.ValidParts', WHERE WHAT IT READS IS OF BULK AT MOST 1048576: true; the input reads as it did. -/
def validPartsUptoRow : OpenClaim := { program := "ytfhkkelhhjbbpaa", sum := "92deb4f475f0a95d3e09993b3c653e70c5af0119d5bf17e9178c34cf437bec93", func := "cachepot/cachepotlaw23.ValidParts", spec := "validParts", apart := false, narrowed := true }
def ValidPartsUptoSaid : Prop := validPartsUptoRow.holds Try.pinned (OpenSpec.upto validPartsSpec)

end Rows
end Go.Proofs.Ytfhkkelhhjbbpaa
