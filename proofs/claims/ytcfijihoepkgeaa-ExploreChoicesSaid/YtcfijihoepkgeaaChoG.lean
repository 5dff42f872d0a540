/- The last loop of the law ExploreChoices: the limits are compared. -/
import Derived.Test.YtcfijihoepkgeaaChoE
set_option linter.unusedVariables false
set_option linter.unusedSimpArgs false
namespace Go.AM.Ytcfijihoepkgeaa
open Go Go.AM
set_option maxRecDepth 100000
set_option maxHeartbeats 0
def T7 (es : List (List V)) (n : Nat) (p pa m : Int) (j : Nat) : St :=
  ⟨((((List.replicate 163 V.undef).set 6 (.ptr 0 1 0 0)).set 11 (.tsl 2 es)).set 148 (.int .i64 n)).set 149 (.int .i64 j),
   [{ z := 4, es := [[.int .i64 p, .sl 2 1 n 0 n, .int .i64 pa, .int .i64 m]], fz := 0, box := true, flat := false }, { z := 2, es := es, fz := 0, box := false, flat := true }], true⟩
theorem s7 (call : CallT) (k : Nat) (es : List (List V)) (n : Nat) (p pa m : Int) (j : Nat) (a b : Int) (hj : es[j]? = some [.int .i64 a, .int .i64 b]) (hn : es.length = n) (hb : n ≤ 140737488351232) :
    kNext (tidy [6, 11, 148, 149] 0) (execC call pu 0 k c7_b0 (T7 es n p pa m j)) = some (T7 es n p pa m (j + 1)) := by
  obtain ⟨hlt, hg⟩ := List.getElem?_eq_some_iff.1 hj
  have hjn : j < n := by rw [← hn]; exact (List.getElem?_eq_some_iff.1 hj).1
  have hjn' : (j : Int) < n := by omega
  have wj : IntKind.i64.wrap ((j : Int) + 1) = (j : Int) + 1 := wrap64 (by omega) (by omega)
  simp (maxSteps := 2000000) [T7, c7_b0, c7_r0, c7_a0, hj, hg, hjn, hjn', wj, hn, eqL, eqV]
end Go.AM.Ytcfijihoepkgeaa
