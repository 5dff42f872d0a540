/- The law ExploreDominates as a statement over the executor. Written by amrow.py for this claim. -/
import Derived.Test.YtcfijihoepkgeaaAmTy
import Derived.Test.YtcfijihoepkgeaaAmPu
namespace Go.AM.Ytcfijihoepkgeaa
open Go Go.AM
def SayExploreDominates : Prop := ∀ x0 x1 x2 : V, A23 x0 → A23 x1 → A23 x2 → ∃ k H d, callF tbl pu k 3 [x0, x1, x2] [] = some (.bool true, H, d)
end Go.AM.Ytcfijihoepkgeaa
