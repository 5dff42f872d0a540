/- The law ProfileCritical as a statement over the executor. Written by amrow.py for this claim. -/
import Derived.Test.YtdgineiemjplhaaAmTy
import Derived.Test.YtdgineiemjplhaaAmPu
namespace Go.AM.Ytdgineiemjplhaa
open Go Go.AM
def SayProfileCritical : Prop := ∀ x0 x1 : V, A26 x0 → A29 x1 → ∃ k H d, callF tbl pu k 3 [x0, x1] [] = some (.bool true, H, d)
end Go.AM.Ytdgineiemjplhaa
