/- The law ProfileFlight as a statement over the executor. Written by amrow.py for this claim. -/
import Derived.Test.YtegibclhopenmaaAmTy
import Derived.Test.YtegibclhopenmaaAmPu
namespace Go.AM.Ytegibclhopenmaa
open Go Go.AM
def SayProfileFlight : Prop := ∀ x0 x1 : V, A30 x0 → A3 x1 → ∃ k H d, callF tbl pu k 3 [x0, x1] [] = some (.bool true, H, d)
end Go.AM.Ytegibclhopenmaa
