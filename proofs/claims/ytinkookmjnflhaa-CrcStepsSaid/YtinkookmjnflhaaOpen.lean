/- Arguments opened: what a row's proof hands to the walks. -/
import Derived.Test.YtinkookmjnflhaaBase
import Derived.ProofKit
import Derived.OpenShut
import Derived.ShutString
import Derived.SizedLaws
import Derived.SliceStrings
import Derived.Lib.SmallJoins
namespace Go.Proofs.Ytinkookmjnflhaa
open Go.ChangeShapes Go.WideShapes Go.ChangeAt Go.RowKit
theorem size_of_toList (s : ByteArray) : s.data.toList.length = s.size := by rw [Array.length_toList]; rfl
end Go.Proofs.Ytinkookmjnflhaa
