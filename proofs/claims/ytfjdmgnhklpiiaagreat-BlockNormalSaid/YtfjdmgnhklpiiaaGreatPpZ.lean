/- A Writer's contracts. -/
import Derived.Test.YtfjdmgnhklpiiaaGreatTryTab
import Derived.Test.YtfjdmgnhklpiiaaGreatAl4
import Derived.Test.YtfjdmgnhklpiiaaGreatBaseX
import Derived.Test.YtfjdmgnhklpiiaaGreatPpX
set_option maxHeartbeats 4000000
set_option maxRecDepth 20000
set_option linter.unusedSimpArgs false
set_option linter.unusedVariables false
open Go Go.AL
namespace Go.Proofs.YtfjdmgnhklpiiaaGreat
def wl (bits : List Bool) : Heap := [.box [.sl 1 (nby bits.length) 0 (nby bits.length : Nat), .int .i64 (bits.length : Nat)], .rw (nby bits.length) (.il .u8 (pack bits))]
def wr : List Bool → Heap
  | [] => [.box [.ls .nl .nil, I 0], .rw 0 (.il .u8 [])]
  | b :: r => wl (b :: r)
end Go.Proofs.YtfjdmgnhklpiiaaGreat
/- A Writer's contracts, 2. -/
set_option maxHeartbeats 4000000
set_option maxRecDepth 20000
set_option linter.unusedSimpArgs false
set_option linter.unusedVariables false
open Go Go.AL
namespace Go.Proofs.YtfjdmgnhklpiiaaGreat
end Go.Proofs.YtfjdmgnhklpiiaaGreat
