/-
  Contracts of functions of the program, proved over the abstract machine of the Al texts.
-/
import Derived.Test.YtfjdmgnhklpiiaaGreatTryTab
import Derived.Test.YtfjdmgnhklpiiaaGreatAl4
import Derived.Test.YtfjdmgnhklpiiaaGreatBaseX
import Derived.Test.YtfjdmgnhklpiiaaGreatPpX
import Derived.Test.YtfjdmgnhklpiiaaGreatTkX1
import Derived.Test.YtfjdmgnhklpiiaaGreatRkX
import Derived.Test.YtfjdmgnhklpiiaaGreatSlX
import Derived.Test.YtfjdmgnhklpiiaaGreatBsX1
import Derived.Test.YtfjdmgnhklpiiaaGreatBsX3
import Derived.Test.YtfjdmgnhklpiiaaGreatBsX4
set_option maxHeartbeats 4000000
set_option maxRecDepth 20000
set_option linter.unusedSimpArgs false
set_option linter.unusedVariables false
open Go Go.AL
namespace Go.Proofs.YtfjdmgnhklpiiaaGreat
end Go.Proofs.YtfjdmgnhklpiiaaGreat
set_option maxHeartbeats 4000000
set_option maxRecDepth 20000
set_option linter.unusedSimpArgs false
set_option linter.unusedVariables false
open Go Go.AL
namespace Go.Proofs.YtfjdmgnhklpiiaaGreat
end Go.Proofs.YtfjdmgnhklpiiaaGreat
set_option maxHeartbeats 4000000
set_option maxRecDepth 20000
set_option linter.unusedSimpArgs false
set_option linter.unusedVariables false
open Go Go.AL
namespace Go.Proofs.YtfjdmgnhklpiiaaGreat
end Go.Proofs.YtfjdmgnhklpiiaaGreat
