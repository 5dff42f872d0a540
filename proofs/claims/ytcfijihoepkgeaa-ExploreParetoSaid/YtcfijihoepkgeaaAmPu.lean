/- Which functions are called with their arguments' memory read as data. -/
import Derived.Test.YtcfijihoepkgeaaAmTab
import Derived.Test.YtcfijihoepkgeaaAmSim
namespace Go.AM.Ytcfijihoepkgeaa
open Go Go.AM
def pu (f : FuncId) : Bool := f == 9 || f == 10 || f == 11 || f == 27 || f == 15 || f == 18 || f == 19 || f == 20 || f == 21 || f == 22 || f == 23 || f == 39 || f == 40 || f == 12 || f == 13 || f == 16 || f == 17 || f == 32 || f == 34 || f == 35 || f == 36 || f == 37 || f == 38 || f == 55 || f == 14
end Go.AM.Ytcfijihoepkgeaa
