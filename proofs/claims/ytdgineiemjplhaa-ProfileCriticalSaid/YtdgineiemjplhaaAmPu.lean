/- Which functions are called with their arguments' memory read as data: all but slices.Sort and slices.Compact, which an oracle answers, and ContainsFunc, IndexFunc and the closure that they are given. -/
import Derived.Test.YtdgineiemjplhaaAmTab
import Derived.Test.YtdgineiemjplhaaAmTree
import Derived.Test.YtdgineiemjplhaaAmSort
namespace Go.AM.Ytdgineiemjplhaa
open Go Go.AM
instance instOra : Ora := ⟨oraSC 13 14⟩
def pu (f : FuncId) : Bool := !(f == 13 || f == 14 || f == 24 || f == 25 || f == 35)
end Go.AM.Ytdgineiemjplhaa
