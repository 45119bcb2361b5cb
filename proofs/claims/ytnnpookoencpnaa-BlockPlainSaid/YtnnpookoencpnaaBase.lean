/- Words used by all. -/
import Derived.Test.YtnnpookoencpnaaTryTab
import Derived.Test.YtnnpookoencpnaaAl4

open Go Go.AL
namespace Go.Proofs.Ytnnpookoencpnaa
abbrev LI (l : List Int) : AVal := .ls (.il .i64 l) .any
abbrev I (n : Int) : AVal := .int .i64 n
end Go.Proofs.Ytnnpookoencpnaa
