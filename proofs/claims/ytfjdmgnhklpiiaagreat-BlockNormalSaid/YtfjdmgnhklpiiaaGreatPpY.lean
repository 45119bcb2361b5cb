/- The document's bits. -/
import Derived.Test.YtfjdmgnhklpiiaaGreatTryTab
import Derived.Test.YtfjdmgnhklpiiaaGreatAl4
import Derived.Test.YtfjdmgnhklpiiaaGreatBaseX
import Derived.Test.YtfjdmgnhklpiiaaGreatPpX
set_option maxHeartbeats 4000000
set_option maxRecDepth 20000
set_option linter.unusedSimpArgs false
set_option linter.unusedVariables false
open Go Go.AL
namespace Go.Proofs.YtfjdmgnhklpiiaaGreat
end Go.Proofs.YtfjdmgnhklpiiaaGreat
/- The document's bits, 2. -/
set_option maxHeartbeats 4000000
set_option maxRecDepth 20000
set_option linter.unusedSimpArgs false
set_option linter.unusedVariables false
open Go Go.AL
namespace Go.Proofs.YtfjdmgnhklpiiaaGreat
end Go.Proofs.YtfjdmgnhklpiiaaGreat
/- Readers: the document's and the program's. -/
set_option maxHeartbeats 4000000
set_option maxRecDepth 20000
set_option linter.unusedSimpArgs false
set_option linter.unusedVariables false
open Go Go.AL
namespace Go.Proofs.YtfjdmgnhklpiiaaGreat
end Go.Proofs.YtfjdmgnhklpiiaaGreat
