/- The law ExploreChoices as a statement over the executor. Written by amrow.py for this claim. -/
import Derived.Test.YtcfijihoepkgeaaAmTy
import Derived.Test.YtcfijihoepkgeaaAmPu
namespace Go.AM.Ytcfijihoepkgeaa
open Go Go.AM
def SayExploreChoices : Prop := ∀ x0 x1 : V, A38 x0 → A3 x1 → ∃ k H d, callF tbl pu k 7 [x0, x1] [] = some (.bool true, H, d)
end Go.AM.Ytcfijihoepkgeaa
