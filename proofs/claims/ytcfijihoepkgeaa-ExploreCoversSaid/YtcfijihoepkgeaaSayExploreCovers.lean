/- The law ExploreCovers as a statement over the executor. Written by amrow.py for this claim. -/
import Derived.Test.YtcfijihoepkgeaaAmTy
import Derived.Test.YtcfijihoepkgeaaAmPu
namespace Go.AM.Ytcfijihoepkgeaa
open Go Go.AM
def SayExploreCovers : Prop := ∀ x0 : V, A27 x0 → ∃ k H d, callF tbl pu k 5 [x0] [] = some (.bool true, H, d)
end Go.AM.Ytcfijihoepkgeaa
