/-
  No cell of these rows narrows 'for every input' (looked for: loops, veiled, ifaces, maps, wideKeys, modest, calm, conditions, laid).
  DERIVED. THE GIVEN ROWS OF THIS SEAT. 7 by the template 'for every input the law returns true; each argument reads behind the call as it read before'; 0 by the template 'total and deterministic' (their statements: YtbcoghfpomnkkaaTotals.lean).
  GIVEN WITH THE SEED: the statements are not yours to turn. If you find one false, say at which input.
  Laid BY PROGRAM, IN A SANDBOX (cutbox-rows.mjs): the forced cells as the released guide's own fill.sh prints them over the translation 87c1c5ace37acd07… (all of the seat's roots in one cut). By AI agents, Wed Nov 11 2026. No macro, syntax, notation, axiom, sorry.
-/
import Derived.Test.YtbcoghfpomnkkaaChecked
import GoSem.Claim
import GoSem.ClaimJoined
import GoSem.ClaimMapViews
import Derived.JoinedTies
import Derived.KernelRfl
namespace Go.Proofs.Ytbcoghfpomnkkaa
/- THE CELL 'sum', in the pinned program and in every row, IS THE sha256 OF THE DUMP (.gsa) THAT YtbcoghfpomnkkaaProg.lean LOADS. Nothing in Lean hashes anything: it is a label: what it is worth is what the hold of that sum in a sandbox is worth. -/
noncomputable def Try.pinned : Pinned := { name := "ytbcoghfpomnkkaa", sum := "87c1c5ace37acd07376109ca0873ce4b09d556dfad03b68c8a735c191c554505", checked := Try.checked }
namespace Rows
def none {H : Type} : Left H := { results := [], args := [] }

/-- 'cachepotlaw11.ChartRounds': WHATEVER THE INPUT: true; the input reads as it did. -/
def chartRoundsSpec : ChangeSpec := { name := "chartRounds", fn := fun _ => fun
  | [d1, d2] => { results := [.lit (.bool true)], args := [d1, d2] }
  | _ => none }
def chartRoundsRow : OpenClaim := { program := "ytbcoghfpomnkkaa", sum := "87c1c5ace37acd07376109ca0873ce4b09d556dfad03b68c8a735c191c554505", func := "cachepot/cachepotlaw11.ChartRounds", spec := "chartRounds", apart := false }
def ChartRoundsSaid : Prop := chartRoundsRow.holds Try.pinned (OpenSpec.ofChange chartRoundsSpec)

/-- ITS FALSE NEIGHBOUR: 'it returns false'. Refute it at one input. -/
def chartRoundsWrong : ChangeSpec := { name := "chartRounds", fn := fun _ => fun
  | [d1, d2] => { results := [.lit (.bool false)], args := [d1, d2] }
  | _ => none }
def ChartRoundsWrongFalsely : Prop := chartRoundsRow.holds Try.pinned (OpenSpec.ofChange chartRoundsWrong)

/-- 'cachepotlaw11.ChartEnd': WHATEVER THE INPUT: true; the input reads as it did. -/
def chartEndSpec : ChangeSpec := { name := "chartEnd", fn := fun _ => fun
  | [d1, d2, d3] => { results := [.lit (.bool true)], args := [d1, d2, d3] }
  | _ => none }
def chartEndRow : OpenClaim := { program := "ytbcoghfpomnkkaa", sum := "87c1c5ace37acd07376109ca0873ce4b09d556dfad03b68c8a735c191c554505", func := "cachepot/cachepotlaw11.ChartEnd", spec := "chartEnd", apart := false }
def ChartEndSaid : Prop := chartEndRow.holds Try.pinned (OpenSpec.ofChange chartEndSpec)

/-- ITS FALSE NEIGHBOUR: 'it returns false'. Refute it at one input. -/
def chartEndWrong : ChangeSpec := { name := "chartEnd", fn := fun _ => fun
  | [d1, d2, d3] => { results := [.lit (.bool false)], args := [d1, d2, d3] }
  | _ => none }
def ChartEndWrongFalsely : Prop := chartEndRow.holds Try.pinned (OpenSpec.ofChange chartEndWrong)

/-- 'cachepotlaw11.ChartAvail': WHATEVER THE INPUT: true; the input reads as it did. -/
def chartAvailSpec : ChangeSpec := { name := "chartAvail", fn := fun _ => fun
  | [d1, d2, d3] => { results := [.lit (.bool true)], args := [d1, d2, d3] }
  | _ => none }
def chartAvailRow : OpenClaim := { program := "ytbcoghfpomnkkaa", sum := "87c1c5ace37acd07376109ca0873ce4b09d556dfad03b68c8a735c191c554505", func := "cachepot/cachepotlaw11.ChartAvail", spec := "chartAvail", apart := false }
def ChartAvailSaid : Prop := chartAvailRow.holds Try.pinned (OpenSpec.ofChange chartAvailSpec)

/-- ITS FALSE NEIGHBOUR: 'it returns false'. Refute it at one input. -/
def chartAvailWrong : ChangeSpec := { name := "chartAvail", fn := fun _ => fun
  | [d1, d2, d3] => { results := [.lit (.bool false)], args := [d1, d2, d3] }
  | _ => none }
def ChartAvailWrongFalsely : Prop := chartAvailRow.holds Try.pinned (OpenSpec.ofChange chartAvailWrong)

/-- 'cachepotlaw11.ChartPages': WHATEVER THE INPUT: true; the input reads as it did. -/
def chartPagesSpec : ChangeSpec := { name := "chartPages", fn := fun _ => fun
  | [d] => { results := [.lit (.bool true)], args := [d] }
  | _ => none }
def chartPagesRow : OpenClaim := { program := "ytbcoghfpomnkkaa", sum := "87c1c5ace37acd07376109ca0873ce4b09d556dfad03b68c8a735c191c554505", func := "cachepot/cachepotlaw11.ChartPages", spec := "chartPages", apart := false }
def ChartPagesSaid : Prop := chartPagesRow.holds Try.pinned (OpenSpec.ofChange chartPagesSpec)

/-- ITS FALSE NEIGHBOUR: 'it returns false'. Refute it at one input. -/
def chartPagesWrong : ChangeSpec := { name := "chartPages", fn := fun _ => fun
  | [d] => { results := [.lit (.bool false)], args := [d] }
  | _ => none }
def ChartPagesWrongFalsely : Prop := chartPagesRow.holds Try.pinned (OpenSpec.ofChange chartPagesWrong)

/-- 'cachepotlaw11.ChartNew': WHATEVER THE INPUT: true; the input reads as it did. -/
def chartNewSpec : ChangeSpec := { name := "chartNew", fn := fun _ => fun
  | [d1, d2] => { results := [.lit (.bool true)], args := [d1, d2] }
  | _ => none }
def chartNewRow : OpenClaim := { program := "ytbcoghfpomnkkaa", sum := "87c1c5ace37acd07376109ca0873ce4b09d556dfad03b68c8a735c191c554505", func := "cachepot/cachepotlaw11.ChartNew", spec := "chartNew", apart := false }
def ChartNewSaid : Prop := chartNewRow.holds Try.pinned (OpenSpec.ofChange chartNewSpec)

/-- ITS FALSE NEIGHBOUR: 'it returns false'. Refute it at one input. -/
def chartNewWrong : ChangeSpec := { name := "chartNew", fn := fun _ => fun
  | [d1, d2] => { results := [.lit (.bool false)], args := [d1, d2] }
  | _ => none }
def ChartNewWrongFalsely : Prop := chartNewRow.holds Try.pinned (OpenSpec.ofChange chartNewWrong)

/-- 'cachepotlaw11.ChartPlays': WHATEVER THE INPUT: true; the input reads as it did. -/
def chartPlaysSpec : ChangeSpec := { name := "chartPlays", fn := fun _ => fun
  | [d1, d2] => { results := [.lit (.bool true)], args := [d1, d2] }
  | _ => none }
def chartPlaysRow : OpenClaim := { program := "ytbcoghfpomnkkaa", sum := "87c1c5ace37acd07376109ca0873ce4b09d556dfad03b68c8a735c191c554505", func := "cachepot/cachepotlaw11.ChartPlays", spec := "chartPlays", apart := false }
def ChartPlaysSaid : Prop := chartPlaysRow.holds Try.pinned (OpenSpec.ofChange chartPlaysSpec)

/-- ITS FALSE NEIGHBOUR: 'it returns false'. Refute it at one input. -/
def chartPlaysWrong : ChangeSpec := { name := "chartPlays", fn := fun _ => fun
  | [d1, d2] => { results := [.lit (.bool false)], args := [d1, d2] }
  | _ => none }
def ChartPlaysWrongFalsely : Prop := chartPlaysRow.holds Try.pinned (OpenSpec.ofChange chartPlaysWrong)

/-- 'cachepotlaw11.ChartNone': WHATEVER THE INPUT: true; the input reads as it did. -/
def chartNoneSpec : ChangeSpec := { name := "chartNone", fn := fun _ => fun
  | [] => { results := [.lit (.bool true)], args := [] }
  | _ => none }
def chartNoneRow : OpenClaim := { program := "ytbcoghfpomnkkaa", sum := "87c1c5ace37acd07376109ca0873ce4b09d556dfad03b68c8a735c191c554505", func := "cachepot/cachepotlaw11.ChartNone", spec := "chartNone", apart := false }
def ChartNoneSaid : Prop := chartNoneRow.holds Try.pinned (OpenSpec.ofChange chartNoneSpec)

/-- ITS FALSE NEIGHBOUR: 'it returns false'. Refute it at one input. -/
def chartNoneWrong : ChangeSpec := { name := "chartNone", fn := fun _ => fun
  | [] => { results := [.lit (.bool false)], args := [] }
  | _ => none }
def ChartNoneWrongFalsely : Prop := chartNoneRow.holds Try.pinned (OpenSpec.ofChange chartNoneWrong)

/- THE SECOND FORM. 'bulk': how many values and letters a reading holds, each counted each time it is reached (what is shared counts as often as it is met; a slice's spare places count too). A statement '..UptoSaid' is the law's where the arguments, and the package variables that the reading takes, are together of bulk at most 1048576: NARROWER than '..Said'. Prove '..Said' where nothing that the law and all that it calls make is longer than what came in: it says more and counts as full. Else prove '..UptoSaid'. A law counts once. -/
mutual
def uptoBulk {H : Type} : DataW H → Nat
  | .lit (.string bytes) => bytes.length + 1
  | .lit _ => 1
  | .nil => 1
  | .ptr d => uptoBulk d + 1
  | .slice elems spare => uptoBulkAll elems + uptoBulkAll spare + 1
  | .agg parts => uptoBulkAll parts + 1
  | .iface _ d => uptoBulk d + 1
  | .map entries => uptoBulkEntries entries + 1
  | .held _ => 1
def uptoBulkAll {H : Type} : List (DataW H) → Nat
  | [] => 0
  | d :: r => uptoBulk d + uptoBulkAll r
def uptoBulkEntries {H : Type} : List (Lit × DataW H) → Nat
  | [] => 0
  | x :: r => uptoBulkEntry x + uptoBulkEntries r
def uptoBulkEntry {H : Type} : Lit × DataW H → Nat
  | (.string bytes, d) => bytes.length + uptoBulk d + 1
  | (_, d) => uptoBulk d + 1
 end
def uptoSmall : (H : Type) → List (DataW H) → Bool := fun _ ds => decide (uptoBulkAll ds ≤ 1048576)
def OpenSpec.upto (s : _root_.Go.ChangeSpec) : _root_.Go.OpenSpec := { _root_.Go.OpenSpec.ofChange s with cond := some uptoSmall }

/-- 'cachepotlaw11.ChartRounds', WHERE WHAT IT READS IS OF BULK AT MOST 1048576: true; the input reads as it did. -/
def chartRoundsUptoRow : OpenClaim := { program := "ytbcoghfpomnkkaa", sum := "87c1c5ace37acd07376109ca0873ce4b09d556dfad03b68c8a735c191c554505", func := "cachepot/cachepotlaw11.ChartRounds", spec := "chartRounds", apart := false, narrowed := true }
def ChartRoundsUptoSaid : Prop := chartRoundsUptoRow.holds Try.pinned (OpenSpec.upto chartRoundsSpec)

/-- 'cachepotlaw11.ChartEnd', WHERE WHAT IT READS IS OF BULK AT MOST 1048576: true; the input reads as it did. -/
def chartEndUptoRow : OpenClaim := { program := "ytbcoghfpomnkkaa", sum := "87c1c5ace37acd07376109ca0873ce4b09d556dfad03b68c8a735c191c554505", func := "cachepot/cachepotlaw11.ChartEnd", spec := "chartEnd", apart := false, narrowed := true }
def ChartEndUptoSaid : Prop := chartEndUptoRow.holds Try.pinned (OpenSpec.upto chartEndSpec)

/-- 'cachepotlaw11.ChartAvail', WHERE WHAT IT READS IS OF BULK AT MOST 1048576: true; the input reads as it did. -/
def chartAvailUptoRow : OpenClaim := { program := "ytbcoghfpomnkkaa", sum := "87c1c5ace37acd07376109ca0873ce4b09d556dfad03b68c8a735c191c554505", func := "cachepot/cachepotlaw11.ChartAvail", spec := "chartAvail", apart := false, narrowed := true }
def ChartAvailUptoSaid : Prop := chartAvailUptoRow.holds Try.pinned (OpenSpec.upto chartAvailSpec)

/-- 'cachepotlaw11.ChartPages', WHERE WHAT IT READS IS OF BULK AT MOST 1048576: true; the input reads as it did. -/
def chartPagesUptoRow : OpenClaim := { program := "ytbcoghfpomnkkaa", sum := "87c1c5ace37acd07376109ca0873ce4b09d556dfad03b68c8a735c191c554505", func := "cachepot/cachepotlaw11.ChartPages", spec := "chartPages", apart := false, narrowed := true }
def ChartPagesUptoSaid : Prop := chartPagesUptoRow.holds Try.pinned (OpenSpec.upto chartPagesSpec)

/-- 'cachepotlaw11.ChartNew', WHERE WHAT IT READS IS OF BULK AT MOST 1048576: true; the input reads as it did. -/
def chartNewUptoRow : OpenClaim := { program := "ytbcoghfpomnkkaa", sum := "87c1c5ace37acd07376109ca0873ce4b09d556dfad03b68c8a735c191c554505", func := "cachepot/cachepotlaw11.ChartNew", spec := "chartNew", apart := false, narrowed := true }
def ChartNewUptoSaid : Prop := chartNewUptoRow.holds Try.pinned (OpenSpec.upto chartNewSpec)

/-- 'cachepotlaw11.ChartPlays', WHERE WHAT IT READS IS OF BULK AT MOST 1048576: true; the input reads as it did. -/
def chartPlaysUptoRow : OpenClaim := { program := "ytbcoghfpomnkkaa", sum := "87c1c5ace37acd07376109ca0873ce4b09d556dfad03b68c8a735c191c554505", func := "cachepot/cachepotlaw11.ChartPlays", spec := "chartPlays", apart := false, narrowed := true }
def ChartPlaysUptoSaid : Prop := chartPlaysUptoRow.holds Try.pinned (OpenSpec.upto chartPlaysSpec)

/-- 'cachepotlaw11.ChartNone', WHERE WHAT IT READS IS OF BULK AT MOST 1048576: true; the input reads as it did. -/
def chartNoneUptoRow : OpenClaim := { program := "ytbcoghfpomnkkaa", sum := "87c1c5ace37acd07376109ca0873ce4b09d556dfad03b68c8a735c191c554505", func := "cachepot/cachepotlaw11.ChartNone", spec := "chartNone", apart := false, narrowed := true }
def ChartNoneUptoSaid : Prop := chartNoneUptoRow.holds Try.pinned (OpenSpec.upto chartNoneSpec)

end Rows
end Go.Proofs.Ytbcoghfpomnkkaa
