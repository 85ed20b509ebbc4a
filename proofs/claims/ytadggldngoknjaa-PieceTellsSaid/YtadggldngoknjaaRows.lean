/-
  No cell of these rows narrows 'for every input' (looked for: loops, veiled, ifaces, maps, wideKeys, modest, calm, conditions, laid).
  DERIVED. THE GIVEN ROWS OF THIS SEAT. 5 by the template 'for every input the law returns true; each argument reads behind the call as it read before'; 0 by the template 'total and deterministic' (their statements: YtadggldngoknjaaTotals.lean).
  GIVEN WITH THE SEED: the statements are not yours to turn. If you find one false, say at which input.
  Laid BY PROGRAM, IN A SANDBOX (cutbox-rows.mjs): the forced cells as the released guide's own fill.sh prints them over the translation de5a513095e3a1d8… (all of the seat's roots in one cut). By AI agents, Wed Nov 11 2026. No macro, syntax, notation, axiom, sorry.
-/
import Derived.Test.YtadggldngoknjaaChecked
import GoSem.Claim
import GoSem.ClaimJoined
import GoSem.ClaimMapViews
import Derived.JoinedTies
import Derived.KernelRfl
namespace Go.Proofs.Ytadggldngoknjaa
/- THE CELL 'sum', in the pinned program and in every row, IS THE sha256 OF THE DUMP (.gsa) THAT YtadggldngoknjaaProg.lean LOADS. Nothing in Lean hashes anything: it is a label: what it is worth is what the hold of that sum in a sandbox is worth. -/
noncomputable def Try.pinned : Pinned := { name := "ytadggldngoknjaa", sum := "de5a513095e3a1d87d2c7c13a6ba943e6dd27bff5b714f10dc0aa33e285f0b80", checked := Try.checked }
namespace Rows
def none {H : Type} : Left H := { results := [], args := [] }

/-- 'cachepotlaw9.PieceMade': WHATEVER THE INPUT: true; the input reads as it did. -/
def pieceMadeSpec : ChangeSpec := { name := "pieceMade", fn := fun _ => fun
  | [d1, d2, d3, d4, d5, d6, d7, d8] => { results := [.lit (.bool true)], args := [d1, d2, d3, d4, d5, d6, d7, d8] }
  | _ => none }
def pieceMadeRow : OpenClaim := { program := "ytadggldngoknjaa", sum := "de5a513095e3a1d87d2c7c13a6ba943e6dd27bff5b714f10dc0aa33e285f0b80", func := "cachepot/cachepotlaw9.PieceMade", spec := "pieceMade", apart := false }
def PieceMadeSaid : Prop := pieceMadeRow.holds Try.pinned (OpenSpec.ofChange pieceMadeSpec)

/-- ITS FALSE NEIGHBOUR: 'it returns false'. Refute it at one input. -/
def pieceMadeWrong : ChangeSpec := { name := "pieceMade", fn := fun _ => fun
  | [d1, d2, d3, d4, d5, d6, d7, d8] => { results := [.lit (.bool false)], args := [d1, d2, d3, d4, d5, d6, d7, d8] }
  | _ => none }
def PieceMadeWrongFalsely : Prop := pieceMadeRow.holds Try.pinned (OpenSpec.ofChange pieceMadeWrong)

/-- 'cachepotlaw9.PieceTells': WHATEVER THE INPUT: true; the input reads as it did. -/
def pieceTellsSpec : ChangeSpec := { name := "pieceTells", fn := fun _ => fun
  | [d1, d2, d3] => { results := [.lit (.bool true)], args := [d1, d2, d3] }
  | _ => none }
def pieceTellsRow : OpenClaim := { program := "ytadggldngoknjaa", sum := "de5a513095e3a1d87d2c7c13a6ba943e6dd27bff5b714f10dc0aa33e285f0b80", func := "cachepot/cachepotlaw9.PieceTells", spec := "pieceTells", unfollowed := true, recurses := true, apart := false }
def PieceTellsSaid : Prop := pieceTellsRow.holds Try.pinned (OpenSpec.ofChange pieceTellsSpec)

/-- ITS FALSE NEIGHBOUR: 'it returns false'. Refute it at one input. -/
def pieceTellsWrong : ChangeSpec := { name := "pieceTells", fn := fun _ => fun
  | [d1, d2, d3] => { results := [.lit (.bool false)], args := [d1, d2, d3] }
  | _ => none }
def PieceTellsWrongFalsely : Prop := pieceTellsRow.holds Try.pinned (OpenSpec.ofChange pieceTellsWrong)

/-- 'cachepotlaw9.PieceFields': WHATEVER THE INPUT: true; the input reads as it did. -/
def pieceFieldsSpec : ChangeSpec := { name := "pieceFields", fn := fun _ => fun
  | [d1, d2] => { results := [.lit (.bool true)], args := [d1, d2] }
  | _ => none }
def pieceFieldsRow : OpenClaim := { program := "ytadggldngoknjaa", sum := "de5a513095e3a1d87d2c7c13a6ba943e6dd27bff5b714f10dc0aa33e285f0b80", func := "cachepot/cachepotlaw9.PieceFields", spec := "pieceFields", apart := false }
def PieceFieldsSaid : Prop := pieceFieldsRow.holds Try.pinned (OpenSpec.ofChange pieceFieldsSpec)

/-- ITS FALSE NEIGHBOUR: 'it returns false'. Refute it at one input. -/
def pieceFieldsWrong : ChangeSpec := { name := "pieceFields", fn := fun _ => fun
  | [d1, d2] => { results := [.lit (.bool false)], args := [d1, d2] }
  | _ => none }
def PieceFieldsWrongFalsely : Prop := pieceFieldsRow.holds Try.pinned (OpenSpec.ofChange pieceFieldsWrong)

/-- 'cachepotlaw9.PieceNone': WHATEVER THE INPUT: true; the input reads as it did. -/
def pieceNoneSpec : ChangeSpec := { name := "pieceNone", fn := fun _ => fun
  | [] => { results := [.lit (.bool true)], args := [] }
  | _ => none }
def pieceNoneRow : OpenClaim := { program := "ytadggldngoknjaa", sum := "de5a513095e3a1d87d2c7c13a6ba943e6dd27bff5b714f10dc0aa33e285f0b80", func := "cachepot/cachepotlaw9.PieceNone", spec := "pieceNone", apart := false }
def PieceNoneSaid : Prop := pieceNoneRow.holds Try.pinned (OpenSpec.ofChange pieceNoneSpec)

/-- ITS FALSE NEIGHBOUR: 'it returns false'. Refute it at one input. -/
def pieceNoneWrong : ChangeSpec := { name := "pieceNone", fn := fun _ => fun
  | [] => { results := [.lit (.bool false)], args := [] }
  | _ => none }
def PieceNoneWrongFalsely : Prop := pieceNoneRow.holds Try.pinned (OpenSpec.ofChange pieceNoneWrong)

/-- 'cachepotlaw9.PieceTypes': WHATEVER THE INPUT: true; the input reads as it did. -/
def pieceTypesSpec : ChangeSpec := { name := "pieceTypes", fn := fun _ => fun
  | [d1, d2, d3, d4] => { results := [.lit (.bool true)], args := [d1, d2, d3, d4] }
  | _ => none }
def pieceTypesRow : OpenClaim := { program := "ytadggldngoknjaa", sum := "de5a513095e3a1d87d2c7c13a6ba943e6dd27bff5b714f10dc0aa33e285f0b80", func := "cachepot/cachepotlaw9.PieceTypes", spec := "pieceTypes", apart := false }
def PieceTypesSaid : Prop := pieceTypesRow.holds Try.pinned (OpenSpec.ofChange pieceTypesSpec)

/-- ITS FALSE NEIGHBOUR: 'it returns false'. Refute it at one input. -/
def pieceTypesWrong : ChangeSpec := { name := "pieceTypes", fn := fun _ => fun
  | [d1, d2, d3, d4] => { results := [.lit (.bool false)], args := [d1, d2, d3, d4] }
  | _ => none }
def PieceTypesWrongFalsely : Prop := pieceTypesRow.holds Try.pinned (OpenSpec.ofChange pieceTypesWrong)

/- THE SECOND FORM. 'bulk': how many values and letters a reading holds, each counted each time it is reached (what is shared counts as often as it is met; a slice's spare places count too). A statement '..UptoSaid' is the law's where the arguments, and the package variables that the reading takes, are together of bulk at most 1048576: NARROWER than '..Said'. Prove '..Said' where nothing that the law and all that it calls make is longer than what came in: it says more and counts as full. Else prove '..UptoSaid'. A law counts once. -/
mutual
def uptoBulk {H : Type} : DataW H → Nat
  | .lit (.string bytes) => bytes.length + 1
  | .lit _ => 1
  | .nil => 1
  | .ptr d => uptoBulk d + 1
  | .slice elems spare => uptoBulkAll elems + uptoBulkAll spare + 1
  | .agg parts => uptoBulkAll parts + 1
  | .iface _ d => uptoBulk d + 1
  | .map entries => uptoBulkEntries entries + 1
  | .held _ => 1
def uptoBulkAll {H : Type} : List (DataW H) → Nat
  | [] => 0
  | d :: r => uptoBulk d + uptoBulkAll r
def uptoBulkEntries {H : Type} : List (Lit × DataW H) → Nat
  | [] => 0
  | x :: r => uptoBulkEntry x + uptoBulkEntries r
def uptoBulkEntry {H : Type} : Lit × DataW H → Nat
  | (.string bytes, d) => bytes.length + uptoBulk d + 1
  | (_, d) => uptoBulk d + 1
 end
def uptoSmall : (H : Type) → List (DataW H) → Bool := fun _ ds => decide (uptoBulkAll ds ≤ 1048576)
def OpenSpec.upto (s : _root_.Go.ChangeSpec) : _root_.Go.OpenSpec := { _root_.Go.OpenSpec.ofChange s with cond := some uptoSmall }

/-- 'cachepotlaw9.PieceMade', WHERE WHAT IT READS IS OF BULK AT MOST 1048576: true; the input reads as it did. -/
def pieceMadeUptoRow : OpenClaim := { program := "ytadggldngoknjaa", sum := "de5a513095e3a1d87d2c7c13a6ba943e6dd27bff5b714f10dc0aa33e285f0b80", func := "cachepot/cachepotlaw9.PieceMade", spec := "pieceMade", apart := false, narrowed := true }
def PieceMadeUptoSaid : Prop := pieceMadeUptoRow.holds Try.pinned (OpenSpec.upto pieceMadeSpec)

/-- 'cachepotlaw9.PieceTells', WHERE WHAT IT READS IS OF BULK AT MOST 1048576: true; the input reads as it did. -/
def pieceTellsUptoRow : OpenClaim := { program := "ytadggldngoknjaa", sum := "de5a513095e3a1d87d2c7c13a6ba943e6dd27bff5b714f10dc0aa33e285f0b80", func := "cachepot/cachepotlaw9.PieceTells", spec := "pieceTells", unfollowed := true, recurses := true, apart := false, narrowed := true }
def PieceTellsUptoSaid : Prop := pieceTellsUptoRow.holds Try.pinned (OpenSpec.upto pieceTellsSpec)

/-- 'cachepotlaw9.PieceFields', WHERE WHAT IT READS IS OF BULK AT MOST 1048576: true; the input reads as it did. -/
def pieceFieldsUptoRow : OpenClaim := { program := "ytadggldngoknjaa", sum := "de5a513095e3a1d87d2c7c13a6ba943e6dd27bff5b714f10dc0aa33e285f0b80", func := "cachepot/cachepotlaw9.PieceFields", spec := "pieceFields", apart := false, narrowed := true }
def PieceFieldsUptoSaid : Prop := pieceFieldsUptoRow.holds Try.pinned (OpenSpec.upto pieceFieldsSpec)

/-- 'cachepotlaw9.PieceNone', WHERE WHAT IT READS IS OF BULK AT MOST 1048576: true; the input reads as it did. -/
def pieceNoneUptoRow : OpenClaim := { program := "ytadggldngoknjaa", sum := "de5a513095e3a1d87d2c7c13a6ba943e6dd27bff5b714f10dc0aa33e285f0b80", func := "cachepot/cachepotlaw9.PieceNone", spec := "pieceNone", apart := false, narrowed := true }
def PieceNoneUptoSaid : Prop := pieceNoneUptoRow.holds Try.pinned (OpenSpec.upto pieceNoneSpec)

/-- 'cachepotlaw9.PieceTypes', WHERE WHAT IT READS IS OF BULK AT MOST 1048576: true; the input reads as it did. -/
def pieceTypesUptoRow : OpenClaim := { program := "ytadggldngoknjaa", sum := "de5a513095e3a1d87d2c7c13a6ba943e6dd27bff5b714f10dc0aa33e285f0b80", func := "cachepot/cachepotlaw9.PieceTypes", spec := "pieceTypes", apart := false, narrowed := true }
def PieceTypesUptoSaid : Prop := pieceTypesUptoRow.holds Try.pinned (OpenSpec.upto pieceTypesSpec)

end Rows
end Go.Proofs.Ytadggldngoknjaa
