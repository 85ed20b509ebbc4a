/-
  No cell of these rows narrows 'for every input' (looked for: loops, veiled, ifaces, maps, wideKeys, modest, calm, conditions, laid).
  DERIVED. THE GIVEN ROWS OF THIS SEAT. 6 by the template 'for every input the law returns true; each argument reads behind the call as it read before'; 0 by the template 'total and deterministic' (their statements: YtinkookmjnflhaaTotals.lean).
  GIVEN WITH THE SEED: the statements are not yours to turn. If you find one false, say at which input.
  Laid BY PROGRAM, IN A SANDBOX (cutbox-rows.mjs): the forced cells as the released guide's own fill.sh prints them over the translation 50d6bd0c126c9b8e… (all of the seat's roots in one cut). By AI agents, Wed Nov 11 2026. No macro, syntax, notation, axiom, sorry.
-/
import Derived.Test.YtinkookmjnflhaaChecked
import GoSem.Claim
import GoSem.ClaimJoined
import GoSem.ClaimMapViews
import Derived.JoinedTies
import Derived.KernelRfl
namespace Go.Proofs.Ytinkookmjnflhaa
/- THE CELL 'sum', in the pinned program and in every row, IS THE sha256 OF THE DUMP (.gsa) THAT YtinkookmjnflhaaProg.lean LOADS. Nothing in Lean hashes anything: it is a label: what it is worth is what the hold of that sum in a sandbox is worth. -/
noncomputable def Try.pinned : Pinned := { name := "ytinkookmjnflhaa", sum := "50d6bd0c126c9b8ec4b72e13c2b993c3b52961bae1e42fe3aeb6564ace79cb97", checked := Try.checked }
namespace Rows
def none {H : Type} : Left H := { results := [], args := [] }

/-- 'cachepotlaw1.CrcTells': WHATEVER THE INPUT: true; the input reads as it did. -/
def crcTellsSpec : ChangeSpec := { name := "crcTells", fn := fun _ => fun
  | [d] => { results := [.lit (.bool true)], args := [d] }
  | _ => none }
def crcTellsRow : OpenClaim := { program := "ytinkookmjnflhaa", sum := "50d6bd0c126c9b8ec4b72e13c2b993c3b52961bae1e42fe3aeb6564ace79cb97", func := "cachepot/cachepotlaw1.CrcTells", spec := "crcTells", apart := false }
def CrcTellsSaid : Prop := crcTellsRow.holds Try.pinned (OpenSpec.ofChange crcTellsSpec)

/-- ITS FALSE NEIGHBOUR: 'it returns false'. Refute it at one input. -/
def crcTellsWrong : ChangeSpec := { name := "crcTells", fn := fun _ => fun
  | [d] => { results := [.lit (.bool false)], args := [d] }
  | _ => none }
def CrcTellsWrongFalsely : Prop := crcTellsRow.holds Try.pinned (OpenSpec.ofChange crcTellsWrong)

/-- 'cachepotlaw1.CrcSteps': WHATEVER THE INPUT: true; the input reads as it did. -/
def crcStepsSpec : ChangeSpec := { name := "crcSteps", fn := fun _ => fun
  | [d1, d2, d3] => { results := [.lit (.bool true)], args := [d1, d2, d3] }
  | _ => none }
def crcStepsRow : OpenClaim := { program := "ytinkookmjnflhaa", sum := "50d6bd0c126c9b8ec4b72e13c2b993c3b52961bae1e42fe3aeb6564ace79cb97", func := "cachepot/cachepotlaw1.CrcSteps", spec := "crcSteps", apart := false }
def CrcStepsSaid : Prop := crcStepsRow.holds Try.pinned (OpenSpec.ofChange crcStepsSpec)

/-- ITS FALSE NEIGHBOUR: 'it returns false'. Refute it at one input. -/
def crcStepsWrong : ChangeSpec := { name := "crcSteps", fn := fun _ => fun
  | [d1, d2, d3] => { results := [.lit (.bool false)], args := [d1, d2, d3] }
  | _ => none }
def CrcStepsWrongFalsely : Prop := crcStepsRow.holds Try.pinned (OpenSpec.ofChange crcStepsWrong)

/-- 'cachepotlaw1.CrcBurst': WHATEVER THE INPUT: true; the input reads as it did. -/
def crcBurstSpec : ChangeSpec := { name := "crcBurst", fn := fun _ => fun
  | [d1, d2, d3] => { results := [.lit (.bool true)], args := [d1, d2, d3] }
  | _ => none }
def crcBurstRow : OpenClaim := { program := "ytinkookmjnflhaa", sum := "50d6bd0c126c9b8ec4b72e13c2b993c3b52961bae1e42fe3aeb6564ace79cb97", func := "cachepot/cachepotlaw1.CrcBurst", spec := "crcBurst", apart := false }
def CrcBurstSaid : Prop := crcBurstRow.holds Try.pinned (OpenSpec.ofChange crcBurstSpec)

/-- ITS FALSE NEIGHBOUR: 'it returns false'. Refute it at one input. -/
def crcBurstWrong : ChangeSpec := { name := "crcBurst", fn := fun _ => fun
  | [d1, d2, d3] => { results := [.lit (.bool false)], args := [d1, d2, d3] }
  | _ => none }
def CrcBurstWrongFalsely : Prop := crcBurstRow.holds Try.pinned (OpenSpec.ofChange crcBurstWrong)

/-- 'cachepotlaw1.CrcTail': WHATEVER THE INPUT: true; the input reads as it did. -/
def crcTailSpec : ChangeSpec := { name := "crcTail", fn := fun _ => fun
  | [d] => { results := [.lit (.bool true)], args := [d] }
  | _ => none }
def crcTailRow : OpenClaim := { program := "ytinkookmjnflhaa", sum := "50d6bd0c126c9b8ec4b72e13c2b993c3b52961bae1e42fe3aeb6564ace79cb97", func := "cachepot/cachepotlaw1.CrcTail", spec := "crcTail", apart := false }
def CrcTailSaid : Prop := crcTailRow.holds Try.pinned (OpenSpec.ofChange crcTailSpec)

/-- ITS FALSE NEIGHBOUR: 'it returns false'. Refute it at one input. -/
def crcTailWrong : ChangeSpec := { name := "crcTail", fn := fun _ => fun
  | [d] => { results := [.lit (.bool false)], args := [d] }
  | _ => none }
def CrcTailWrongFalsely : Prop := crcTailRow.holds Try.pinned (OpenSpec.ofChange crcTailWrong)

/-- 'cachepotlaw1.CrcAdds': WHATEVER THE INPUT: true; the input reads as it did. -/
def crcAddsSpec : ChangeSpec := { name := "crcAdds", fn := fun _ => fun
  | [d1, d2, d3] => { results := [.lit (.bool true)], args := [d1, d2, d3] }
  | _ => none }
def crcAddsRow : OpenClaim := { program := "ytinkookmjnflhaa", sum := "50d6bd0c126c9b8ec4b72e13c2b993c3b52961bae1e42fe3aeb6564ace79cb97", func := "cachepot/cachepotlaw1.CrcAdds", spec := "crcAdds", apart := false }
def CrcAddsSaid : Prop := crcAddsRow.holds Try.pinned (OpenSpec.ofChange crcAddsSpec)

/-- ITS FALSE NEIGHBOUR: 'it returns false'. Refute it at one input. -/
def crcAddsWrong : ChangeSpec := { name := "crcAdds", fn := fun _ => fun
  | [d1, d2, d3] => { results := [.lit (.bool false)], args := [d1, d2, d3] }
  | _ => none }
def CrcAddsWrongFalsely : Prop := crcAddsRow.holds Try.pinned (OpenSpec.ofChange crcAddsWrong)

/-- 'cachepotlaw1.CrcBytes': WHATEVER THE INPUT: true; the input reads as it did. -/
def crcBytesSpec : ChangeSpec := { name := "crcBytes", fn := fun _ => fun
  | [d1, d2, d3, d4] => { results := [.lit (.bool true)], args := [d1, d2, d3, d4] }
  | _ => none }
def crcBytesRow : OpenClaim := { program := "ytinkookmjnflhaa", sum := "50d6bd0c126c9b8ec4b72e13c2b993c3b52961bae1e42fe3aeb6564ace79cb97", func := "cachepot/cachepotlaw1.CrcBytes", spec := "crcBytes", apart := false }
def CrcBytesSaid : Prop := crcBytesRow.holds Try.pinned (OpenSpec.ofChange crcBytesSpec)

/-- ITS FALSE NEIGHBOUR: 'it returns false'. Refute it at one input. -/
def crcBytesWrong : ChangeSpec := { name := "crcBytes", fn := fun _ => fun
  | [d1, d2, d3, d4] => { results := [.lit (.bool false)], args := [d1, d2, d3, d4] }
  | _ => none }
def CrcBytesWrongFalsely : Prop := crcBytesRow.holds Try.pinned (OpenSpec.ofChange crcBytesWrong)

/- THE SECOND FORM. 'bulk': how many values and letters a reading holds, each counted each time it is reached (what is shared counts as often as it is met; a slice's spare places count too). A statement '..UptoSaid' is the law's where the arguments, and the package variables that the reading takes, are together of bulk at most 1048576: NARROWER than '..Said'. Prove '..Said' where nothing that the law and all that it calls make is longer than what came in: it says more and counts as full. Else prove '..UptoSaid'. A law counts once. -/
mutual
def uptoBulk {H : Type} : DataW H → Nat
  | .lit (.string bytes) => bytes.length + 1
  | .lit _ => 1
  | .nil => 1
  | .ptr d => uptoBulk d + 1
  | .slice elems spare => uptoBulkAll elems + uptoBulkAll spare + 1
  | .agg parts => uptoBulkAll parts + 1
  | .iface _ d => uptoBulk d + 1
  | .map entries => uptoBulkEntries entries + 1
  | .held _ => 1
def uptoBulkAll {H : Type} : List (DataW H) → Nat
  | [] => 0
  | d :: r => uptoBulk d + uptoBulkAll r
def uptoBulkEntries {H : Type} : List (Lit × DataW H) → Nat
  | [] => 0
  | x :: r => uptoBulkEntry x + uptoBulkEntries r
def uptoBulkEntry {H : Type} : Lit × DataW H → Nat
  | (.string bytes, d) => bytes.length + uptoBulk d + 1
  | (_, d) => uptoBulk d + 1
 end
def uptoSmall : (H : Type) → List (DataW H) → Bool := fun _ ds => decide (uptoBulkAll ds ≤ 1048576)
def OpenSpec.upto (s : _root_.Go.ChangeSpec) : _root_.Go.OpenSpec := { _root_.Go.OpenSpec.ofChange s with cond := some uptoSmall }

/-- 'cachepotlaw1.CrcTells', WHERE WHAT IT READS IS OF BULK AT MOST 1048576: true; the input reads as it did. -/
def crcTellsUptoRow : OpenClaim := { program := "ytinkookmjnflhaa", sum := "50d6bd0c126c9b8ec4b72e13c2b993c3b52961bae1e42fe3aeb6564ace79cb97", func := "cachepot/cachepotlaw1.CrcTells", spec := "crcTells", apart := false, narrowed := true }
def CrcTellsUptoSaid : Prop := crcTellsUptoRow.holds Try.pinned (OpenSpec.upto crcTellsSpec)

/-- 'cachepotlaw1.CrcSteps', WHERE WHAT IT READS IS OF BULK AT MOST 1048576: true; the input reads as it did. -/
def crcStepsUptoRow : OpenClaim := { program := "ytinkookmjnflhaa", sum := "50d6bd0c126c9b8ec4b72e13c2b993c3b52961bae1e42fe3aeb6564ace79cb97", func := "cachepot/cachepotlaw1.CrcSteps", spec := "crcSteps", apart := false, narrowed := true }
def CrcStepsUptoSaid : Prop := crcStepsUptoRow.holds Try.pinned (OpenSpec.upto crcStepsSpec)

/-- 'cachepotlaw1.CrcBurst', WHERE WHAT IT READS IS OF BULK AT MOST 1048576: true; the input reads as it did. -/
def crcBurstUptoRow : OpenClaim := { program := "ytinkookmjnflhaa", sum := "50d6bd0c126c9b8ec4b72e13c2b993c3b52961bae1e42fe3aeb6564ace79cb97", func := "cachepot/cachepotlaw1.CrcBurst", spec := "crcBurst", apart := false, narrowed := true }
def CrcBurstUptoSaid : Prop := crcBurstUptoRow.holds Try.pinned (OpenSpec.upto crcBurstSpec)

/-- 'cachepotlaw1.CrcTail', WHERE WHAT IT READS IS OF BULK AT MOST 1048576: true; the input reads as it did. -/
def crcTailUptoRow : OpenClaim := { program := "ytinkookmjnflhaa", sum := "50d6bd0c126c9b8ec4b72e13c2b993c3b52961bae1e42fe3aeb6564ace79cb97", func := "cachepot/cachepotlaw1.CrcTail", spec := "crcTail", apart := false, narrowed := true }
def CrcTailUptoSaid : Prop := crcTailUptoRow.holds Try.pinned (OpenSpec.upto crcTailSpec)

/-- 'cachepotlaw1.CrcAdds', WHERE WHAT IT READS IS OF BULK AT MOST 1048576: true; the input reads as it did. -/
def crcAddsUptoRow : OpenClaim := { program := "ytinkookmjnflhaa", sum := "50d6bd0c126c9b8ec4b72e13c2b993c3b52961bae1e42fe3aeb6564ace79cb97", func := "cachepot/cachepotlaw1.CrcAdds", spec := "crcAdds", apart := false, narrowed := true }
def CrcAddsUptoSaid : Prop := crcAddsUptoRow.holds Try.pinned (OpenSpec.upto crcAddsSpec)

/-- 'cachepotlaw1.CrcBytes', WHERE WHAT IT READS IS OF BULK AT MOST 1048576: true; the input reads as it did. -/
def crcBytesUptoRow : OpenClaim := { program := "ytinkookmjnflhaa", sum := "50d6bd0c126c9b8ec4b72e13c2b993c3b52961bae1e42fe3aeb6564ace79cb97", func := "cachepot/cachepotlaw1.CrcBytes", spec := "crcBytes", apart := false, narrowed := true }
def CrcBytesUptoSaid : Prop := crcBytesUptoRow.holds Try.pinned (OpenSpec.upto crcBytesSpec)

end Rows
end Go.Proofs.Ytinkookmjnflhaa
