/- jacquardref28.Clashes: what it returns. -/
import Derived.Test.YtllnlcifddhapaaUsS
set_option linter.unusedVariables false
set_option linter.unusedSimpArgs false
namespace Go.AM.Ytllnlcifddhapaa
open Go Go.AM
set_option maxRecDepth 100000
set_option maxHeartbeats 0
def I15 (ins par : Int) (loop : Bool) (va vr vn : V) (ii dep : Int) (vs vp vu : V) (out : V) (Hx : Heap) (i q : Nat) (d : Bool) : St := ⟨[.undef, .undef, .ptr 0 1 0 0, .ptr 1 1 0 0, .undef, out, .int .i64 i, .int .i64 q, .undef, .int .i64 ins, .int .i64 i, .undef, .undef, .undef, .undef, .undef, .undef, .undef, .undef, .undef, .undef, .undef, .undef, .undef, .undef, .undef, .undef, .undef, .undef, .undef, .undef, .undef, .undef], [bxF ins par loop va vr vn, bxS ii dep vs vp vu] ++ Hx, d⟩
def O15 (ins par : Int) (loop : Bool) (va vr vn : V) (ii dep : Int) (vs vp vu : V) (out : V) (Hx : Heap) (i : Nat) (d : Bool) : St := ⟨[.undef, .undef, .ptr 0 1 0 0, .ptr 1 1 0 0, .undef, out, .undef, .undef, .undef, .int .i64 ins, .int .i64 i, .undef, .undef, .undef, .undef, .undef, .undef, .undef, .undef, .undef, .undef, .undef, .undef, .undef, .undef, .undef, .undef, .undef, .undef, .undef, .undef, .undef, .undef], [bxF ins par loop va vr vn, bxS ii dep vs vp vu] ++ Hx, d⟩
section
variable (k : Nat) (ins par : Int) (loop : Bool) (va vr vn : V) (ii dep : Int) (vs vp vu : V) (ta : va.tree = true) (tr : vr.tree = true) (tn : vn.tree = true) (ts : vs.tree = true) (tp : vp.tree = true) (tu : vu.tree = true)
include ta tr tn ts tp tu
section
variable (i q : Nat) (d : Bool) (hq : (q : Int) < ins) (hqb : q ≤ 100000) (b d' : Bool) (h22 : callF tbl pu k 22 [.agg [.int .i64 ins, .int .i64 par, .bool loop, va, vr, vn], .agg [.int .i64 ii, .int .i64 dep, vs, vp, vu], .int .i64 i, .int .i64 q] [] = some (.bool b, [], d'))
include hq hqb h22
theorem i15a (hb : b = false) : kNext (tidy [2, 3, 5, 6, 7, 9, 10] 0) (execC (callF tbl pu k) pu 0 k c15_b0 (I15 ins par loop va vr vn ii dep vs vp vu .nils [] i q d)) = some (I15 ins par loop va vr vn ii dep vs vp vu .nils [] i (q + 1) d) := by
  have wq : IntKind.i64.wrap ((q : Int) + 1) = (q : Int) + 1 := wrap64 (by omega) (by omega)
  have ka := V.cell_of_tree ta
  have kr := V.cell_of_tree tr
  have kn := V.cell_of_tree tn
  have ks := V.cell_of_tree ts
  have kp := V.cell_of_tree tp
  have ku := V.cell_of_tree tu
  subst hb
  simp [I15, bxF, bxS, c15_b0, hq, wq, ka, kr, kn, ks, kp, ku, ta, tr, tn, ts, tp, tu, callV_pu, h22]
theorem i15b (hb : b = false) (os : List (List V)) (z : Nat) : kNext (tidy [2, 3, 5, 6, 7, 9, 10] 0) (execC (callF tbl pu k) pu 0 k c15_b0 (I15 ins par loop va vr vn ii dep vs vp vu (.sl 2 2 z 0 z) [⟨2, os, 0, false, true⟩] i q d)) = some (I15 ins par loop va vr vn ii dep vs vp vu (.sl 2 2 z 0 z) [⟨2, os, 0, false, true⟩] i (q + 1) d) := by
  have wq : IntKind.i64.wrap ((q : Int) + 1) = (q : Int) + 1 := wrap64 (by omega) (by omega)
  have ka := V.cell_of_tree ta
  have kr := V.cell_of_tree tr
  have kn := V.cell_of_tree tn
  have ks := V.cell_of_tree ts
  have kp := V.cell_of_tree tp
  have ku := V.cell_of_tree tu
  subst hb
  simp [I15, bxF, bxS, c15_b0, hq, wq, ka, kr, kn, ks, kp, ku, ta, tr, tn, ts, tp, tu, callV_pu, h22]
theorem i15c (hb : b = true) : ∃ r, kNext (tidy [2, 3, 5, 6, 7, 9, 10] 0) (execC (callF tbl pu k) pu 0 k c15_b0 (I15 ins par loop va vr vn ii dep vs vp vu .nils [] i q d)) = some (I15 ins par loop va vr vn ii dep vs vp vu (.sl 2 2 1 0 1) [⟨2, [r], 0, false, true⟩] i (q + 1) d) := by
  have wq : IntKind.i64.wrap ((q : Int) + 1) = (q : Int) + 1 := wrap64 (by omega) (by omega)
  have ka := V.cell_of_tree ta
  have kr := V.cell_of_tree tr
  have kn := V.cell_of_tree tn
  have ks := V.cell_of_tree ts
  have kp := V.cell_of_tree tp
  have ku := V.cell_of_tree tu
  subst hb
  refine ⟨[.int .i64 i, .int .i64 q], ?_⟩
  simp [I15, bxF, bxS, c15_b0, hq, wq, ka, kr, kn, ks, kp, ku, ta, tr, tn, ts, tp, tu, callV_pu, h22, appV, elemsOf, roomB]
theorem i15d (hb : b = true) (os : List (List V)) (z : Nat) (hz : os.length = z) (hz2 : z ≤ 1000000000) : ∃ os', os'.length = z + 1 ∧ kNext (tidy [2, 3, 5, 6, 7, 9, 10] 0) (execC (callF tbl pu k) pu 0 k c15_b0 (I15 ins par loop va vr vn ii dep vs vp vu (.sl 2 2 z 0 z) [⟨2, os, 0, false, true⟩] i q d)) = some (I15 ins par loop va vr vn ii dep vs vp vu (.sl 2 2 (z + 1) 0 (z + 1)) [⟨2, os', 0, false, true⟩] i (q + 1) true) := by
  have wq : IntKind.i64.wrap ((q : Int) + 1) = (q : Int) + 1 := wrap64 (by omega) (by omega)
  have ka := V.cell_of_tree ta
  have kr := V.cell_of_tree tr
  have kn := V.cell_of_tree tn
  have ks := V.cell_of_tree ts
  have kp := V.cell_of_tree tp
  have ku := V.cell_of_tree tu
  subst hb
  have hol : (os ++ [[V.int .i64 i, .int .i64 q]]).length = z + 1 := by simp [hz]
  refine ⟨os ++ [[.int .i64 i, .int .i64 q]], hol, ?_⟩
  have r1 : (z + 1) * 16 ≤ 140737488351232 := by omega
  have r2 : z + 1 ≤ 140737488351232 := by omega
  have lg : ¬ z + 1 ≤ z := by omega
  have tk : os.take z = os := List.take_of_length_le (by omega)
  have dr : os.drop (z + 1) = [] := List.drop_eq_nil_of_le (by omega)
  generalize hos : os ++ [[V.int .i64 i, .int .i64 q]] = os' at *
  simp [I15, bxF, bxS, c15_b0, hq, wq, ka, kr, kn, ks, kp, ku, ta, tr, tn, ts, tp, tu, callV_pu, h22, appV, elemsOf, roomB, hz, r1, r2, lg, tk, dr, hos, hol]
end
theorem i15e (call : CallT) (out : V) (Hx : Heap) (i q : Nat) (d : Bool) (hq : ¬ (q : Int) < ins) : ∃ fr, execC call pu 0 k c15_b0 (I15 ins par loop va vr vn ii dep vs vp vu out Hx i q d) = some (.exit 2, ⟨fr, [bxF ins par loop va vr vn, bxS ii dep vs vp vu] ++ Hx, d⟩) ∧ fr = ((I15 ins par loop va vr vn ii dep vs vp vu out Hx i q d).fr.set 14 (.int .i64 q) |>.set 15 (.ptr 0 1 0 0) |>.set 16 (.int .i64 ins) |>.set 17 (.bool false)) := by
  have ka := V.cell_of_tree ta
  have kr := V.cell_of_tree tr
  have kn := V.cell_of_tree tn
  have ks := V.cell_of_tree ts
  have kp := V.cell_of_tree tp
  have ku := V.cell_of_tree tu
  refine ⟨_, ?_, rfl⟩
  simp [I15, bxF, bxS, c15_b0, hq, ka, kr, kn, ks, kp, ku, ta, tr, tn, ts, tp, tu]
end
end Go.AM.Ytllnlcifddhapaa
