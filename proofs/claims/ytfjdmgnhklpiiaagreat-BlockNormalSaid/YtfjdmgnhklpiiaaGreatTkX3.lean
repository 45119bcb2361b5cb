/-
  Contracts of functions of the program, proved over the abstract machine of the Al texts.
-/
import Derived.Test.YtfjdmgnhklpiiaaGreatTryTab
import Derived.Test.YtfjdmgnhklpiiaaGreatAl4
import Derived.Test.YtfjdmgnhklpiiaaGreatBaseX
import Derived.Test.YtfjdmgnhklpiiaaGreatBsX8
import Derived.Test.YtfjdmgnhklpiiaaGreatTkX1
import Derived.Test.YtfjdmgnhklpiiaaGreatTkX2
set_option maxHeartbeats 4000000
set_option maxRecDepth 20000
set_option linter.unusedSimpArgs false
set_option linter.unusedVariables false
open Go Go.AL
namespace Go.Proofs.YtfjdmgnhklpiiaaGreat
def BlkIn.e (x : BlkIn) (n d : Int) : Int := bsE x.kd x.vl x.sh x.ix x.lg x.gn x.pt x.rc x.da n d
def BlkIn.l (x : BlkIn) (n d : Int) : List Int := bsL x.kd x.vl x.sh x.ix x.lg x.gn x.pt x.rc x.da n d
def zBlk : BlkIn := ⟨0, 0, 0, [], 0, 0, 0, [], []⟩
end Go.Proofs.YtfjdmgnhklpiiaaGreat
