/- Which functions are called with their arguments' memory read as data: all. -/
import Derived.Test.YtllnlcifddhapaaAmTab
import Derived.Test.YtllnlcifddhapaaAmInv
namespace Go.AM.Ytllnlcifddhapaa
open Go Go.AM
def pu (_ : FuncId) : Bool := true
end Go.AM.Ytllnlcifddhapaa
