/- The law ExplorePareto as a statement over the executor. Written by amrow.py for this claim. -/
import Derived.Test.YtcfijihoepkgeaaAmTy
import Derived.Test.YtcfijihoepkgeaaAmPu
namespace Go.AM.Ytcfijihoepkgeaa
open Go Go.AM
def SayExplorePareto : Prop := ∀ x0 : V, A27 x0 → ∃ k H d, callF tbl pu k 4 [x0] [] = some (.bool true, H, d)
end Go.AM.Ytcfijihoepkgeaa
