/- The law ProfileAgrees as a statement over the executor. Written by amrow.py for this claim. -/
import Derived.Test.YtegibclhopenmaaAmTy
import Derived.Test.YtegibclhopenmaaAmPu
namespace Go.AM.Ytegibclhopenmaa
open Go Go.AM
def SayProfileAgrees : Prop := ∀ x0 : V, A30 x0 → ∃ k H d, callF tbl pu k 5 [x0] [] = some (.bool true, H, d)
end Go.AM.Ytegibclhopenmaa
