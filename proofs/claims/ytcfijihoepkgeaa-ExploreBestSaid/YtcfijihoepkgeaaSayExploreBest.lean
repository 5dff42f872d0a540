/- The law ExploreBest as a statement over the executor. Written by amrow.py for this claim. -/
import Derived.Test.YtcfijihoepkgeaaAmTy
import Derived.Test.YtcfijihoepkgeaaAmPu
namespace Go.AM.Ytcfijihoepkgeaa
open Go Go.AM
def SayExploreBest : Prop := ∀ x0 x1 x2 : V, A27 x0 → A3 x1 → A3 x2 → ∃ k H d, callF tbl pu k 6 [x0, x1, x2] [] = some (.bool true, H, d)
end Go.AM.Ytcfijihoepkgeaa
