/-
  No cell of these rows narrows 'for every input' (looked for: loops, veiled, ifaces, maps, wideKeys, modest, calm, conditions, laid).
  DERIVED. THE GIVEN ROWS OF THIS SEAT. 5 by the template 'for every input the law returns true; each argument reads behind the call as it read before'; 0 by the template 'total and deterministic' (their statements: YtekadonopenljaaTotals.lean).
  GIVEN WITH THE SEED: the statements are not yours to turn. If you find one false, say at which input.
  Laid BY PROGRAM, IN A SANDBOX (cutbox-rows.mjs): the forced cells as the released guide's own fill.sh prints them over the translation ab68c6cc46811207… (all of the seat's roots in one cut). By AI agents, Wed Nov 11 2026. No macro, syntax, notation, axiom, sorry.
-/
import Derived.Test.YtekadonopenljaaChecked
import GoSem.Claim
import GoSem.ClaimJoined
import GoSem.ClaimMapViews
import Derived.JoinedTies
import Derived.KernelRfl
namespace Go.Proofs.Ytekadonopenljaa
/- THE CELL 'sum', in the pinned program and in every row, IS THE sha256 OF THE DUMP (.gsa) THAT YtekadonopenljaaProg.lean LOADS. Nothing in Lean hashes anything: it is a label: what it is worth is what the hold of that sum in a sandbox is worth. -/
noncomputable def Try.pinned : Pinned := { name := "ytekadonopenljaa", sum := "ab68c6cc46811207f7087792c76298dc3a75b930e8d6a343a4e5e4a6788ec1f4", checked := Try.checked }
namespace Rows
def none {H : Type} : Left H := { results := [], args := [] }

/-- 'cachepotlaw6.GeomNeeds': WHATEVER THE INPUT: true; the input reads as it did. -/
def geomNeedsSpec : ChangeSpec := { name := "geomNeeds", fn := fun _ => fun
  | [d1, d2, d3] => { results := [.lit (.bool true)], args := [d1, d2, d3] }
  | _ => none }
def geomNeedsRow : OpenClaim := { program := "ytekadonopenljaa", sum := "ab68c6cc46811207f7087792c76298dc3a75b930e8d6a343a4e5e4a6788ec1f4", func := "cachepot/cachepotlaw6.GeomNeeds", spec := "geomNeeds", apart := false }
def GeomNeedsSaid : Prop := geomNeedsRow.holds Try.pinned (OpenSpec.ofChange geomNeedsSpec)

/-- ITS FALSE NEIGHBOUR: 'it returns false'. Refute it at one input. -/
def geomNeedsWrong : ChangeSpec := { name := "geomNeeds", fn := fun _ => fun
  | [d1, d2, d3] => { results := [.lit (.bool false)], args := [d1, d2, d3] }
  | _ => none }
def GeomNeedsWrongFalsely : Prop := geomNeedsRow.holds Try.pinned (OpenSpec.ofChange geomNeedsWrong)

/-- 'cachepotlaw6.GeomTells': WHATEVER THE INPUT: true; the input reads as it did. -/
def geomTellsSpec : ChangeSpec := { name := "geomTells", fn := fun _ => fun
  | [d1, d2, d3] => { results := [.lit (.bool true)], args := [d1, d2, d3] }
  | _ => none }
def geomTellsRow : OpenClaim := { program := "ytekadonopenljaa", sum := "ab68c6cc46811207f7087792c76298dc3a75b930e8d6a343a4e5e4a6788ec1f4", func := "cachepot/cachepotlaw6.GeomTells", spec := "geomTells", apart := false }
def GeomTellsSaid : Prop := geomTellsRow.holds Try.pinned (OpenSpec.ofChange geomTellsSpec)

/-- ITS FALSE NEIGHBOUR: 'it returns false'. Refute it at one input. -/
def geomTellsWrong : ChangeSpec := { name := "geomTells", fn := fun _ => fun
  | [d1, d2, d3] => { results := [.lit (.bool false)], args := [d1, d2, d3] }
  | _ => none }
def GeomTellsWrongFalsely : Prop := geomTellsRow.holds Try.pinned (OpenSpec.ofChange geomTellsWrong)

/-- 'cachepotlaw6.GeomBounds': WHATEVER THE INPUT: true; the input reads as it did. -/
def geomBoundsSpec : ChangeSpec := { name := "geomBounds", fn := fun _ => fun
  | [d] => { results := [.lit (.bool true)], args := [d] }
  | _ => none }
def geomBoundsRow : OpenClaim := { program := "ytekadonopenljaa", sum := "ab68c6cc46811207f7087792c76298dc3a75b930e8d6a343a4e5e4a6788ec1f4", func := "cachepot/cachepotlaw6.GeomBounds", spec := "geomBounds", apart := false }
def GeomBoundsSaid : Prop := geomBoundsRow.holds Try.pinned (OpenSpec.ofChange geomBoundsSpec)

/-- ITS FALSE NEIGHBOUR: 'it returns false'. Refute it at one input. -/
def geomBoundsWrong : ChangeSpec := { name := "geomBounds", fn := fun _ => fun
  | [d] => { results := [.lit (.bool false)], args := [d] }
  | _ => none }
def GeomBoundsWrongFalsely : Prop := geomBoundsRow.holds Try.pinned (OpenSpec.ofChange geomBoundsWrong)

/-- 'cachepotlaw6.GeomPages': WHATEVER THE INPUT: true; the input reads as it did. -/
def geomPagesSpec : ChangeSpec := { name := "geomPages", fn := fun _ => fun
  | [d1, d2, d3, d4, d5] => { results := [.lit (.bool true)], args := [d1, d2, d3, d4, d5] }
  | _ => none }
def geomPagesRow : OpenClaim := { program := "ytekadonopenljaa", sum := "ab68c6cc46811207f7087792c76298dc3a75b930e8d6a343a4e5e4a6788ec1f4", func := "cachepot/cachepotlaw6.GeomPages", spec := "geomPages", apart := false }
def GeomPagesSaid : Prop := geomPagesRow.holds Try.pinned (OpenSpec.ofChange geomPagesSpec)

/-- ITS FALSE NEIGHBOUR: 'it returns false'. Refute it at one input. -/
def geomPagesWrong : ChangeSpec := { name := "geomPages", fn := fun _ => fun
  | [d1, d2, d3, d4, d5] => { results := [.lit (.bool false)], args := [d1, d2, d3, d4, d5] }
  | _ => none }
def GeomPagesWrongFalsely : Prop := geomPagesRow.holds Try.pinned (OpenSpec.ofChange geomPagesWrong)

/-- 'cachepotlaw6.GeomBack': WHATEVER THE INPUT: true; the input reads as it did. -/
def geomBackSpec : ChangeSpec := { name := "geomBack", fn := fun _ => fun
  | [d1, d2] => { results := [.lit (.bool true)], args := [d1, d2] }
  | _ => none }
def geomBackRow : OpenClaim := { program := "ytekadonopenljaa", sum := "ab68c6cc46811207f7087792c76298dc3a75b930e8d6a343a4e5e4a6788ec1f4", func := "cachepot/cachepotlaw6.GeomBack", spec := "geomBack", apart := false }
def GeomBackSaid : Prop := geomBackRow.holds Try.pinned (OpenSpec.ofChange geomBackSpec)

/-- ITS FALSE NEIGHBOUR: 'it returns false'. Refute it at one input. -/
def geomBackWrong : ChangeSpec := { name := "geomBack", fn := fun _ => fun
  | [d1, d2] => { results := [.lit (.bool false)], args := [d1, d2] }
  | _ => none }
def GeomBackWrongFalsely : Prop := geomBackRow.holds Try.pinned (OpenSpec.ofChange geomBackWrong)

/- THE SECOND FORM. 'bulk': how many values and letters a reading holds, each counted each time it is reached (what is shared counts as often as it is met; a slice's spare places count too). A statement '..UptoSaid' is the law's where the arguments, and the package variables that the reading takes, are together of bulk at most 1048576: NARROWER than '..Said'. Prove '..Said' where nothing that the law and all that it calls make is longer than what came in: it says more and counts as full. Else prove '..UptoSaid'. A law counts once. -/
mutual
def uptoBulk {H : Type} : DataW H → Nat
  | .lit (.string bytes) => bytes.length + 1
  | .lit _ => 1
  | .nil => 1
  | .ptr d => uptoBulk d + 1
  | .slice elems spare => uptoBulkAll elems + uptoBulkAll spare + 1
  | .agg parts => uptoBulkAll parts + 1
  | .iface _ d => uptoBulk d + 1
  | .map entries => uptoBulkEntries entries + 1
  | .held _ => 1
def uptoBulkAll {H : Type} : List (DataW H) → Nat
  | [] => 0
  | d :: r => uptoBulk d + uptoBulkAll r
def uptoBulkEntries {H : Type} : List (Lit × DataW H) → Nat
  | [] => 0
  | x :: r => uptoBulkEntry x + uptoBulkEntries r
def uptoBulkEntry {H : Type} : Lit × DataW H → Nat
  | (.string bytes, d) => bytes.length + uptoBulk d + 1
  | (_, d) => uptoBulk d + 1
 end
def uptoSmall : (H : Type) → List (DataW H) → Bool := fun _ ds => decide (uptoBulkAll ds ≤ 1048576)
def OpenSpec.upto (s : _root_.Go.ChangeSpec) : _root_.Go.OpenSpec := { _root_.Go.OpenSpec.ofChange s with cond := some uptoSmall }

/-- 'cachepotlaw6.GeomNeeds', WHERE WHAT IT READS IS OF BULK AT MOST 1048576: true; the input reads as it did. -/
def geomNeedsUptoRow : OpenClaim := { program := "ytekadonopenljaa", sum := "ab68c6cc46811207f7087792c76298dc3a75b930e8d6a343a4e5e4a6788ec1f4", func := "cachepot/cachepotlaw6.GeomNeeds", spec := "geomNeeds", apart := false, narrowed := true }
def GeomNeedsUptoSaid : Prop := geomNeedsUptoRow.holds Try.pinned (OpenSpec.upto geomNeedsSpec)

/-- 'cachepotlaw6.GeomTells', WHERE WHAT IT READS IS OF BULK AT MOST 1048576: true; the input reads as it did. -/
def geomTellsUptoRow : OpenClaim := { program := "ytekadonopenljaa", sum := "ab68c6cc46811207f7087792c76298dc3a75b930e8d6a343a4e5e4a6788ec1f4", func := "cachepot/cachepotlaw6.GeomTells", spec := "geomTells", apart := false, narrowed := true }
def GeomTellsUptoSaid : Prop := geomTellsUptoRow.holds Try.pinned (OpenSpec.upto geomTellsSpec)

/-- 'cachepotlaw6.GeomBounds', WHERE WHAT IT READS IS OF BULK AT MOST 1048576: true; the input reads as it did. -/
def geomBoundsUptoRow : OpenClaim := { program := "ytekadonopenljaa", sum := "ab68c6cc46811207f7087792c76298dc3a75b930e8d6a343a4e5e4a6788ec1f4", func := "cachepot/cachepotlaw6.GeomBounds", spec := "geomBounds", apart := false, narrowed := true }
def GeomBoundsUptoSaid : Prop := geomBoundsUptoRow.holds Try.pinned (OpenSpec.upto geomBoundsSpec)

/-- 'cachepotlaw6.GeomPages', WHERE WHAT IT READS IS OF BULK AT MOST 1048576: true; the input reads as it did. -/
def geomPagesUptoRow : OpenClaim := { program := "ytekadonopenljaa", sum := "ab68c6cc46811207f7087792c76298dc3a75b930e8d6a343a4e5e4a6788ec1f4", func := "cachepot/cachepotlaw6.GeomPages", spec := "geomPages", apart := false, narrowed := true }
def GeomPagesUptoSaid : Prop := geomPagesUptoRow.holds Try.pinned (OpenSpec.upto geomPagesSpec)

/-- 'cachepotlaw6.GeomBack', WHERE WHAT IT READS IS OF BULK AT MOST 1048576: true; the input reads as it did. -/
def geomBackUptoRow : OpenClaim := { program := "ytekadonopenljaa", sum := "ab68c6cc46811207f7087792c76298dc3a75b930e8d6a343a4e5e4a6788ec1f4", func := "cachepot/cachepotlaw6.GeomBack", spec := "geomBack", apart := false, narrowed := true }
def GeomBackUptoSaid : Prop := geomBackUptoRow.holds Try.pinned (OpenSpec.upto geomBackSpec)

end Rows
end Go.Proofs.Ytekadonopenljaa
