/- Which functions are called with their arguments' memory read as data: all. -/
import Derived.Test.YtegibclhopenmaaAmTab
import Derived.Test.YtegibclhopenmaaAmTree
namespace Go.AM.Ytegibclhopenmaa
open Go Go.AM
def pu (_ : FuncId) : Bool := true
end Go.AM.Ytegibclhopenmaa
