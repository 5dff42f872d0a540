/- Which functions are called with their arguments' memory read as data: all but maps.Keys, and slices.Sorted, which an oracle answers. -/
import Derived.Test.YtegibclhopenmaaAmTab
import Derived.Test.YtegibclhopenmaaAmTree
import Derived.Test.YtegibclhopenmaaAmKey
namespace Go.AM.Ytegibclhopenmaa
open Go Go.AM
def pu (f : FuncId) : Bool := !(f == 20 || f == 21)
instance instOra : Ora := ⟨oraKey 20 36⟩
end Go.AM.Ytegibclhopenmaa
