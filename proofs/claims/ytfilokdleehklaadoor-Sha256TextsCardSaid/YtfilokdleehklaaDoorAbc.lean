/- One digest. -/
import Derived.Test.YtfilokdleehklaaDoorPad
set_option linter.all false
namespace Go.Proofs.YtfilokdleehklaaDoor
open Go.RowKit
set_option maxRecDepth 1000000
set_option maxHeartbeats 4000000
theorem abc_digest : (Sha.digest [97, 98, 99])[0]? = some 186 ∧ (Sha.digest [97, 98, 99])[31]? = some 173 := by decide +kernel
end Go.Proofs.YtfilokdleehklaaDoor
