/-
  No cell of these rows narrows 'for every input' (looked for: loops, veiled, ifaces, maps, wideKeys, modest, calm, conditions, laid).
  DERIVED. THE GIVEN ROWS OF THIS SEAT. 7 by the template 'for every input the law returns true; each argument reads behind the call as it read before'; 0 by the template 'total and deterministic' (their statements: YtbclmnlggngepaaTotals.lean).
  GIVEN WITH THE SEED: the statements are not yours to turn. If you find one false, say at which input.
  Laid BY PROGRAM, IN A SANDBOX (cutbox-rows.mjs): the forced cells as the released guide's own fill.sh prints them over the translation f0ab90e943df6234… (all of the seat's roots in one cut). By AI agents, Wed Nov 11 2026. No macro, syntax, notation, axiom, sorry.
-/
import Derived.Test.YtbclmnlggngepaaChecked
import GoSem.Claim
import GoSem.ClaimJoined
import GoSem.ClaimMapViews
import Derived.JoinedTies
import Derived.KernelRfl
namespace Go.Proofs.Ytbclmnlggngepaa
/- THE CELL 'sum', in the pinned program and in every row, IS THE sha256 OF THE DUMP (.gsa) THAT YtbclmnlggngepaaProg.lean LOADS. Nothing in Lean hashes anything: it is a label: what it is worth is what the hold of that sum in a sandbox is worth. -/
noncomputable def Try.pinned : Pinned := { name := "ytbclmnlggngepaa", sum := "f0ab90e943df62343d957474e3fa24f16c1e81aea644f43c5e3a5fe7bf12d30b", checked := Try.checked }
namespace Rows
def none {H : Type} : Left H := { results := [], args := [] }

/-- 'cachepotlaw7.FlashNew': WHATEVER THE INPUT: true; the input reads as it did. -/
def flashNewSpec : ChangeSpec := { name := "flashNew", fn := fun _ => fun
  | [d1, d2, d3] => { results := [.lit (.bool true)], args := [d1, d2, d3] }
  | _ => none }
def flashNewRow : OpenClaim := { program := "ytbclmnlggngepaa", sum := "f0ab90e943df62343d957474e3fa24f16c1e81aea644f43c5e3a5fe7bf12d30b", func := "cachepot/cachepotlaw7.FlashNew", spec := "flashNew", inPlace := ["internal/abi.NoEscape", "internal/bytealg.MakeNoZero"], apart := false }
def FlashNewSaid : Prop := flashNewRow.holds Try.pinned (OpenSpec.ofChange flashNewSpec)

/-- ITS FALSE NEIGHBOUR: 'it returns false'. Refute it at one input. -/
def flashNewWrong : ChangeSpec := { name := "flashNew", fn := fun _ => fun
  | [d1, d2, d3] => { results := [.lit (.bool false)], args := [d1, d2, d3] }
  | _ => none }
def FlashNewWrongFalsely : Prop := flashNewRow.holds Try.pinned (OpenSpec.ofChange flashNewWrong)

/-- 'cachepotlaw7.FlashErased': WHATEVER THE INPUT: true; the input reads as it did. -/
def flashErasedSpec : ChangeSpec := { name := "flashErased", fn := fun _ => fun
  | [d1, d2] => { results := [.lit (.bool true)], args := [d1, d2] }
  | _ => none }
def flashErasedRow : OpenClaim := { program := "ytbclmnlggngepaa", sum := "f0ab90e943df62343d957474e3fa24f16c1e81aea644f43c5e3a5fe7bf12d30b", func := "cachepot/cachepotlaw7.FlashErased", spec := "flashErased", inPlace := ["internal/abi.NoEscape", "internal/bytealg.MakeNoZero"], apart := false }
def FlashErasedSaid : Prop := flashErasedRow.holds Try.pinned (OpenSpec.ofChange flashErasedSpec)

/-- ITS FALSE NEIGHBOUR: 'it returns false'. Refute it at one input. -/
def flashErasedWrong : ChangeSpec := { name := "flashErased", fn := fun _ => fun
  | [d1, d2] => { results := [.lit (.bool false)], args := [d1, d2] }
  | _ => none }
def FlashErasedWrongFalsely : Prop := flashErasedRow.holds Try.pinned (OpenSpec.ofChange flashErasedWrong)

/-- 'cachepotlaw7.FlashTorn': WHATEVER THE INPUT: true; the input reads as it did. -/
def flashTornSpec : ChangeSpec := { name := "flashTorn", fn := fun _ => fun
  | [d1, d2, d3] => { results := [.lit (.bool true)], args := [d1, d2, d3] }
  | _ => none }
def flashTornRow : OpenClaim := { program := "ytbclmnlggngepaa", sum := "f0ab90e943df62343d957474e3fa24f16c1e81aea644f43c5e3a5fe7bf12d30b", func := "cachepot/cachepotlaw7.FlashTorn", spec := "flashTorn", inPlace := ["internal/abi.NoEscape", "internal/bytealg.MakeNoZero"], apart := false }
def FlashTornSaid : Prop := flashTornRow.holds Try.pinned (OpenSpec.ofChange flashTornSpec)

/-- ITS FALSE NEIGHBOUR: 'it returns false'. Refute it at one input. -/
def flashTornWrong : ChangeSpec := { name := "flashTorn", fn := fun _ => fun
  | [d1, d2, d3] => { results := [.lit (.bool false)], args := [d1, d2, d3] }
  | _ => none }
def FlashTornWrongFalsely : Prop := flashTornRow.holds Try.pinned (OpenSpec.ofChange flashTornWrong)

/-- 'cachepotlaw7.FlashFuses': WHATEVER THE INPUT: true; the input reads as it did. -/
def flashFusesSpec : ChangeSpec := { name := "flashFuses", fn := fun _ => fun
  | [d1, d2] => { results := [.lit (.bool true)], args := [d1, d2] }
  | _ => none }
def flashFusesRow : OpenClaim := { program := "ytbclmnlggngepaa", sum := "f0ab90e943df62343d957474e3fa24f16c1e81aea644f43c5e3a5fe7bf12d30b", func := "cachepot/cachepotlaw7.FlashFuses", spec := "flashFuses", inPlace := ["internal/abi.NoEscape", "internal/bytealg.MakeNoZero"], apart := false }
def FlashFusesSaid : Prop := flashFusesRow.holds Try.pinned (OpenSpec.ofChange flashFusesSpec)

/-- ITS FALSE NEIGHBOUR: 'it returns false'. Refute it at one input. -/
def flashFusesWrong : ChangeSpec := { name := "flashFuses", fn := fun _ => fun
  | [d1, d2] => { results := [.lit (.bool false)], args := [d1, d2] }
  | _ => none }
def FlashFusesWrongFalsely : Prop := flashFusesRow.holds Try.pinned (OpenSpec.ofChange flashFusesWrong)

/-- 'cachepotlaw7.FlashOnce': WHATEVER THE INPUT: true; the input reads as it did. -/
def flashOnceSpec : ChangeSpec := { name := "flashOnce", fn := fun _ => fun
  | [d1, d2, d3] => { results := [.lit (.bool true)], args := [d1, d2, d3] }
  | _ => none }
def flashOnceRow : OpenClaim := { program := "ytbclmnlggngepaa", sum := "f0ab90e943df62343d957474e3fa24f16c1e81aea644f43c5e3a5fe7bf12d30b", func := "cachepot/cachepotlaw7.FlashOnce", spec := "flashOnce", inPlace := ["internal/abi.NoEscape", "internal/bytealg.MakeNoZero"], apart := false }
def FlashOnceSaid : Prop := flashOnceRow.holds Try.pinned (OpenSpec.ofChange flashOnceSpec)

/-- ITS FALSE NEIGHBOUR: 'it returns false'. Refute it at one input. -/
def flashOnceWrong : ChangeSpec := { name := "flashOnce", fn := fun _ => fun
  | [d1, d2, d3] => { results := [.lit (.bool false)], args := [d1, d2, d3] }
  | _ => none }
def FlashOnceWrongFalsely : Prop := flashOnceRow.holds Try.pinned (OpenSpec.ofChange flashOnceWrong)

/-- 'cachepotlaw7.FlashRots': WHATEVER THE INPUT: true; the input reads as it did. -/
def flashRotsSpec : ChangeSpec := { name := "flashRots", fn := fun _ => fun
  | [d1, d2, d3, d4] => { results := [.lit (.bool true)], args := [d1, d2, d3, d4] }
  | _ => none }
def flashRotsRow : OpenClaim := { program := "ytbclmnlggngepaa", sum := "f0ab90e943df62343d957474e3fa24f16c1e81aea644f43c5e3a5fe7bf12d30b", func := "cachepot/cachepotlaw7.FlashRots", spec := "flashRots", inPlace := ["internal/abi.NoEscape", "internal/bytealg.MakeNoZero"], apart := false }
def FlashRotsSaid : Prop := flashRotsRow.holds Try.pinned (OpenSpec.ofChange flashRotsSpec)

/-- ITS FALSE NEIGHBOUR: 'it returns false'. Refute it at one input. -/
def flashRotsWrong : ChangeSpec := { name := "flashRots", fn := fun _ => fun
  | [d1, d2, d3, d4] => { results := [.lit (.bool false)], args := [d1, d2, d3, d4] }
  | _ => none }
def FlashRotsWrongFalsely : Prop := flashRotsRow.holds Try.pinned (OpenSpec.ofChange flashRotsWrong)

/-- 'cachepotlaw7.FlashPlays': WHATEVER THE INPUT: true; the input reads as it did. -/
def flashPlaysSpec : ChangeSpec := { name := "flashPlays", fn := fun _ => fun
  | [d1, d2, d3] => { results := [.lit (.bool true)], args := [d1, d2, d3] }
  | _ => none }
def flashPlaysRow : OpenClaim := { program := "ytbclmnlggngepaa", sum := "f0ab90e943df62343d957474e3fa24f16c1e81aea644f43c5e3a5fe7bf12d30b", func := "cachepot/cachepotlaw7.FlashPlays", spec := "flashPlays", inPlace := ["internal/abi.NoEscape", "internal/bytealg.MakeNoZero"], apart := false }
def FlashPlaysSaid : Prop := flashPlaysRow.holds Try.pinned (OpenSpec.ofChange flashPlaysSpec)

/-- ITS FALSE NEIGHBOUR: 'it returns false'. Refute it at one input. -/
def flashPlaysWrong : ChangeSpec := { name := "flashPlays", fn := fun _ => fun
  | [d1, d2, d3] => { results := [.lit (.bool false)], args := [d1, d2, d3] }
  | _ => none }
def FlashPlaysWrongFalsely : Prop := flashPlaysRow.holds Try.pinned (OpenSpec.ofChange flashPlaysWrong)

/- THE SECOND FORM. 'bulk': how many values and letters a reading holds, each counted each time it is reached (what is shared counts as often as it is met; a slice's spare places count too). A statement '..UptoSaid' is the law's where the arguments, and the package variables that the reading takes, are together of bulk at most 1048576: NARROWER than '..Said'. Prove '..Said' where nothing that the law and all that it calls make is longer than what came in: it says more and counts as full. Else prove '..UptoSaid'. A law counts once. -/
mutual
def uptoBulk {H : Type} : DataW H → Nat
  | .lit (.string bytes) => bytes.length + 1
  | .lit _ => 1
  | .nil => 1
  | .ptr d => uptoBulk d + 1
  | .slice elems spare => uptoBulkAll elems + uptoBulkAll spare + 1
  | .agg parts => uptoBulkAll parts + 1
  | .iface _ d => uptoBulk d + 1
  | .map entries => uptoBulkEntries entries + 1
  | .held _ => 1
def uptoBulkAll {H : Type} : List (DataW H) → Nat
  | [] => 0
  | d :: r => uptoBulk d + uptoBulkAll r
def uptoBulkEntries {H : Type} : List (Lit × DataW H) → Nat
  | [] => 0
  | x :: r => uptoBulkEntry x + uptoBulkEntries r
def uptoBulkEntry {H : Type} : Lit × DataW H → Nat
  | (.string bytes, d) => bytes.length + uptoBulk d + 1
  | (_, d) => uptoBulk d + 1
 end
def uptoSmall : (H : Type) → List (DataW H) → Bool := fun _ ds => decide (uptoBulkAll ds ≤ 1048576)
def OpenSpec.upto (s : _root_.Go.ChangeSpec) : _root_.Go.OpenSpec := { _root_.Go.OpenSpec.ofChange s with cond := some uptoSmall }

/-- 'cachepotlaw7.FlashNew', WHERE WHAT IT READS IS OF BULK AT MOST 1048576: true; the input reads as it did. -/
def flashNewUptoRow : OpenClaim := { program := "ytbclmnlggngepaa", sum := "f0ab90e943df62343d957474e3fa24f16c1e81aea644f43c5e3a5fe7bf12d30b", func := "cachepot/cachepotlaw7.FlashNew", spec := "flashNew", inPlace := ["internal/abi.NoEscape", "internal/bytealg.MakeNoZero"], apart := false, narrowed := true }
def FlashNewUptoSaid : Prop := flashNewUptoRow.holds Try.pinned (OpenSpec.upto flashNewSpec)

/-- 'cachepotlaw7.FlashErased', WHERE WHAT IT READS IS OF BULK AT MOST 1048576: true; the input reads as it did. -/
def flashErasedUptoRow : OpenClaim := { program := "ytbclmnlggngepaa", sum := "f0ab90e943df62343d957474e3fa24f16c1e81aea644f43c5e3a5fe7bf12d30b", func := "cachepot/cachepotlaw7.FlashErased", spec := "flashErased", inPlace := ["internal/abi.NoEscape", "internal/bytealg.MakeNoZero"], apart := false, narrowed := true }
def FlashErasedUptoSaid : Prop := flashErasedUptoRow.holds Try.pinned (OpenSpec.upto flashErasedSpec)

/-- 'cachepotlaw7.FlashTorn', WHERE WHAT IT READS IS OF BULK AT MOST 1048576: true; the input reads as it did. -/
def flashTornUptoRow : OpenClaim := { program := "ytbclmnlggngepaa", sum := "f0ab90e943df62343d957474e3fa24f16c1e81aea644f43c5e3a5fe7bf12d30b", func := "cachepot/cachepotlaw7.FlashTorn", spec := "flashTorn", inPlace := ["internal/abi.NoEscape", "internal/bytealg.MakeNoZero"], apart := false, narrowed := true }
def FlashTornUptoSaid : Prop := flashTornUptoRow.holds Try.pinned (OpenSpec.upto flashTornSpec)

/-- 'cachepotlaw7.FlashFuses', WHERE WHAT IT READS IS OF BULK AT MOST 1048576: true; the input reads as it did. -/
def flashFusesUptoRow : OpenClaim := { program := "ytbclmnlggngepaa", sum := "f0ab90e943df62343d957474e3fa24f16c1e81aea644f43c5e3a5fe7bf12d30b", func := "cachepot/cachepotlaw7.FlashFuses", spec := "flashFuses", inPlace := ["internal/abi.NoEscape", "internal/bytealg.MakeNoZero"], apart := false, narrowed := true }
def FlashFusesUptoSaid : Prop := flashFusesUptoRow.holds Try.pinned (OpenSpec.upto flashFusesSpec)

/-- 'cachepotlaw7.FlashOnce', WHERE WHAT IT READS IS OF BULK AT MOST 1048576: true; the input reads as it did. -/
def flashOnceUptoRow : OpenClaim := { program := "ytbclmnlggngepaa", sum := "f0ab90e943df62343d957474e3fa24f16c1e81aea644f43c5e3a5fe7bf12d30b", func := "cachepot/cachepotlaw7.FlashOnce", spec := "flashOnce", inPlace := ["internal/abi.NoEscape", "internal/bytealg.MakeNoZero"], apart := false, narrowed := true }
def FlashOnceUptoSaid : Prop := flashOnceUptoRow.holds Try.pinned (OpenSpec.upto flashOnceSpec)

/-- 'cachepotlaw7.FlashRots', WHERE WHAT IT READS IS OF BULK AT MOST 1048576: true; the input reads as it did. -/
def flashRotsUptoRow : OpenClaim := { program := "ytbclmnlggngepaa", sum := "f0ab90e943df62343d957474e3fa24f16c1e81aea644f43c5e3a5fe7bf12d30b", func := "cachepot/cachepotlaw7.FlashRots", spec := "flashRots", inPlace := ["internal/abi.NoEscape", "internal/bytealg.MakeNoZero"], apart := false, narrowed := true }
def FlashRotsUptoSaid : Prop := flashRotsUptoRow.holds Try.pinned (OpenSpec.upto flashRotsSpec)

/-- 'cachepotlaw7.FlashPlays', WHERE WHAT IT READS IS OF BULK AT MOST 1048576: true; the input reads as it did. -/
def flashPlaysUptoRow : OpenClaim := { program := "ytbclmnlggngepaa", sum := "f0ab90e943df62343d957474e3fa24f16c1e81aea644f43c5e3a5fe7bf12d30b", func := "cachepot/cachepotlaw7.FlashPlays", spec := "flashPlays", inPlace := ["internal/abi.NoEscape", "internal/bytealg.MakeNoZero"], apart := false, narrowed := true }
def FlashPlaysUptoSaid : Prop := flashPlaysUptoRow.holds Try.pinned (OpenSpec.upto flashPlaysSpec)

end Rows
end Go.Proofs.Ytbclmnlggngepaa
