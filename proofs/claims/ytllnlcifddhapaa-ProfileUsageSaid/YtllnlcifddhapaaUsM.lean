/- What the program and the reference tell of the use of resources: their rounds. -/
import Derived.Test.YtllnlcifddhapaaUsI
import Derived.Test.YtllnlcifddhapaaUsL
set_option linter.unusedVariables false
set_option linter.unusedSimpArgs false
namespace Go.AM.Ytllnlcifddhapaa
open Go Go.AM
set_option maxRecDepth 100000
set_option maxHeartbeats 0
def T8 (ins par : Int) (loop : Bool) (va vr vn : V) (ii dep : Int) (vs vp vu : V) (out : V) (Hx : Heap) (m j : Nat) (d : Bool) : St := ⟨[.undef, .undef, .ptr 0 1 0 0, .ptr 1 1 0 0, .undef, out, .undef, .undef, .undef, .undef, .undef, .undef, .int .i64 m, .int .i64 j, .undef, .undef, .undef, .undef, .undef, .undef, .undef, .undef, .undef, .undef, .undef, .undef, .undef, .undef, .undef, .undef, .undef, .undef, .undef, .undef, .undef, .undef, .undef, .undef, .undef, .undef, .undef, .undef, .undef], [bxF ins par loop va vr vn, bxS ii dep vs vp vu] ++ Hx, d⟩
def T6b (ins par : Int) (loop : Bool) (va vr vn : V) (len : Int) (out : V) (Hx : Heap) (m j : Nat) (d : Bool) : St := ⟨[.undef, .undef, .ptr 0 1 0 0, .undef, .undef, .int .i64 len, out, .undef, .undef, .undef, .undef, .undef, .undef, .undef, .undef, .undef, .undef, .undef, .undef, .undef, .undef, .undef, vr, .int .i64 m, .int .i64 j, .undef, .undef, .undef, .undef, .undef, .undef, .undef, .undef, .undef, .undef, .undef, .undef, .undef, .undef, .undef, .undef, .undef, .undef, .undef, .undef, .undef, .undef, .undef, .undef, .undef, .undef, .undef, .undef, .undef, .undef, .undef, .undef, .undef, .undef, .undef], [bxF ins par loop va vr vn] ++ Hx, d⟩
def T6a (vn : V) (q : Nat) (es : List (List V)) (m j : Nat) (d : Bool) : St := ⟨[.undef, .undef, .undef, .undef, .undef, .undef, .sl 2 0 q 0 q, .undef, .undef, .undef, .undef, .undef, .undef, .undef, .undef, .undef, .undef, .undef, .undef, .undef, .undef, .undef, .undef, .undef, .undef, .undef, .undef, .undef, .undef, .undef, .undef, .undef, .undef, .undef, .undef, .undef, .undef, .undef, vn, .int .i64 m, .int .i64 j, .undef, .undef, .undef, .undef, .undef, .undef, .undef, .undef, .undef, .undef, .undef, .undef, .undef, .undef, .undef, .undef, .undef, .undef, .undef], [⟨2, es, 0, false, true⟩], d⟩
theorem freeze_nil (H : Heap) : freezeH H [] = H := rfl
def lenI (loop : Bool) (ii dep : Int) : Int := if loop then ii else dep
def row (a b : Int) : List V := [.int .i64 a, .int .i64 b]
section
variable (k : Nat) (ins par : Int) (loop : Bool) (va vn : V) (ii dep : Int) (vs vp vu : V) (rs : List (List V)) (m j : Nat) (x : Rs) (su lo : Int) (d : Bool) (hm : rs.length = m) (hx : rs[j]? = some x.vs) (hj : j < m) (hb : m ≤ 100000) (ta : va.tree = true) (tn : vn.tree = true) (ts : vs.tree = true) (tp : vp.tree = true) (tu : vu.tree = true)
  (hw : IntKind.i64.wrap (x.ct * lenI loop ii dep) = x.ct * lenI loop ii dep) (h13 : callF tbl pu k 13 [.agg [.int .i64 ins, .int .i64 par, .bool loop, va, .tsl 4 rs, vn], .int .i64 j] [] = some (.tup [.int .i64 su, .int .i64 lo], [], false))
include hm hx hj hb ta tn ts tp tu hw h13
theorem s8a (hj0 : j = 0) :
    kNext (tidy [2, 3, 5, 12, 13] 0) (execC (callF tbl pu k) pu 0 k c8_b0 (T8 ins par loop va (.tsl 4 rs) vn ii dep vs vp vu .nils [] m j d)) = some (T8 ins par loop va (.tsl 4 rs) vn ii dep vs vp vu (.sl 2 2 1 0 1) [⟨2, [row su (x.ct * lenI loop ii dep)], 0, false, true⟩] m (j + 1) d) := by
  have wj : IntKind.i64.wrap ((j : Int) + 1) = (j : Int) + 1 := wrap64 (by omega) (by omega)
  have ka := V.cell_of_tree ta
  have kn := V.cell_of_tree tn
  have ks := V.cell_of_tree ts
  have kp := V.cell_of_tree tp
  have ku := V.cell_of_tree tu
  clear hj0
  subst hm
  rw [List.getElem?_eq_getElem hj, Option.some_inj] at hx
  unfold Rs.vs at hx
  cases loop with
  | true =>
    unfold lenI at *
    simp only [if_true] at hw ⊢
    simp [T8, bxF, bxS, row, c8_b0, hj, hx, wj, hw, ka, kn, ks, kp, ku, ta, tn, ts, tp, tu, callV_pu, h13, appV, elemsOf, roomB]
  | false =>
    unfold lenI at *
    simp only [Bool.false_eq_true, if_false] at hw ⊢
    simp [T8, bxF, bxS, row, c8_b0, hj, hx, wj, hw, ka, kn, ks, kp, ku, ta, tn, ts, tp, tu, callV_pu, h13, appV, elemsOf, roomB]
theorem s8b (os os' : List (List V)) (ho : os.length = j) (hos : os ++ [row su (x.ct * lenI loop ii dep)] = os') :
    kNext (tidy [2, 3, 5, 12, 13] 0) (execC (callF tbl pu k) pu 0 k c8_b0 (T8 ins par loop va (.tsl 4 rs) vn ii dep vs vp vu (.sl 2 2 j 0 j) [⟨2, os, 0, false, true⟩] m j d)) = some (T8 ins par loop va (.tsl 4 rs) vn ii dep vs vp vu (.sl 2 2 (j + 1) 0 (j + 1)) [⟨2, os', 0, false, true⟩] m (j + 1) true) := by
  have wj : IntKind.i64.wrap ((j : Int) + 1) = (j : Int) + 1 := wrap64 (by omega) (by omega)
  have hol : os'.length = j + 1 := by rw [← hos]; simp [ho]
  have r1 : (j + 1) * 16 ≤ 140737488351232 := by omega
  have r2 : j + 1 ≤ 140737488351232 := by omega
  have lg : ¬ j + 1 ≤ j := by omega
  have tk : os.take j = os := List.take_of_length_le (by omega)
  have dr : os.drop (j + 1) = [] := List.drop_eq_nil_of_le (by omega)
  have ka := V.cell_of_tree ta
  have kn := V.cell_of_tree tn
  have ks := V.cell_of_tree ts
  have kp := V.cell_of_tree tp
  have ku := V.cell_of_tree tu
  subst hm
  rw [List.getElem?_eq_getElem hj, Option.some_inj] at hx
  unfold Rs.vs at hx
  unfold row at hos
  cases loop with
  | true =>
    unfold lenI at *
    simp only [if_true] at hw hos ⊢
    simp [T8, bxF, bxS, c8_b0, hj, hx, wj, hw, ka, kn, ks, kp, ku, ta, tn, ts, tp, tu, callV_pu, h13, appV, elemsOf, roomB, ho, r1, r2, lg, tk, dr, hos, hol]
  | false =>
    unfold lenI at *
    simp only [Bool.false_eq_true, if_false] at hw hos ⊢
    simp [T8, bxF, bxS, c8_b0, hj, hx, wj, hw, ka, kn, ks, kp, ku, ta, tn, ts, tp, tu, callV_pu, h13, appV, elemsOf, roomB, ho, r1, r2, lg, tk, dr, hos, hol]
end
section
variable (call : CallT) (k : Nat) (ins par : Int) (loop : Bool) (va vn : V) (len : Int) (rs : List (List V)) (m j : Nat) (x : Rs) (d : Bool) (hm : rs.length = m) (hx : rs[j]? = some x.vs) (hj : j < m) (hb : m ≤ 100000) (ta : va.tree = true) (tn : vn.tree = true) (hw : IntKind.i64.wrap (x.ct * len) = x.ct * len)
include hm hx hj hb ta tn hw
theorem s6b (hj0 : j = 0) :
    kNext (tidy [2, 5, 6, 22, 23, 24] 0) (execC call pu 0 k c6_b1 (T6b ins par loop va (.tsl 4 rs) vn len .nils [] m j d)) = some (T6b ins par loop va (.tsl 4 rs) vn len (.sl 2 1 1 0 1) [⟨2, [row 0 (x.ct * len)], 0, false, true⟩] m (j + 1) true) := by
  have wj : IntKind.i64.wrap ((j : Int) + 1) = (j : Int) + 1 := wrap64 (by omega) (by omega)
  have ka := V.cell_of_tree ta
  have kn := V.cell_of_tree tn
  clear hj0
  subst hm
  rw [List.getElem?_eq_getElem hj, Option.some_inj] at hx
  unfold Rs.vs at hx
  simp [T6b, bxF, row, c6_b1, hj, hx, wj, hw, ka, kn, ta, tn, appV, elemsOf, roomB]
theorem s6c (os os' : List (List V)) (ho : os.length = j) (hos : os ++ [row 0 (x.ct * len)] = os') :
    kNext (tidy [2, 5, 6, 22, 23, 24] 0) (execC call pu 0 k c6_b1 (T6b ins par loop va (.tsl 4 rs) vn len (.sl 2 1 j 0 j) [⟨2, os, 0, false, true⟩] m j d)) = some (T6b ins par loop va (.tsl 4 rs) vn len (.sl 2 1 (j + 1) 0 (j + 1)) [⟨2, os', 0, false, true⟩] m (j + 1) true) := by
  have wj : IntKind.i64.wrap ((j : Int) + 1) = (j : Int) + 1 := wrap64 (by omega) (by omega)
  have hol : os'.length = j + 1 := by rw [← hos]; simp [ho]
  have r1 : (j + 1) * 16 ≤ 140737488351232 := by omega
  have r2 : j + 1 ≤ 140737488351232 := by omega
  have lg : ¬ j + 1 ≤ j := by omega
  have tk : os.take j = os := List.take_of_length_le (by omega)
  have dr : os.drop (j + 1) = [] := List.drop_eq_nil_of_le (by omega)
  have ka := V.cell_of_tree ta
  have kn := V.cell_of_tree tn
  subst hm
  rw [List.getElem?_eq_getElem hj, Option.some_inj] at hx
  unfold Rs.vs at hx
  unfold row at hos
  simp [T6b, bxF, c6_b1, hj, hx, wj, hw, ka, kn, ta, tn, appV, elemsOf, roomB, ho, r1, r2, lg, tk, dr, hos, hol]
end
section
variable (call : CallT) (k : Nat) (ns es : List (List V)) (q m j : Nat) (x : Nd) (d : Bool) (hm : ns.length = m) (hx : ns[j]? = some x.vs) (hj : j < m) (hb : m ≤ 100000)
include hm hx hj hb
theorem s6n (h : x.rs < 0) :
    kNext (tidy [6, 38, 39, 40] 0) (execC call pu 0 k c6_b0 (T6a (.tsl 2 ns) q es m j d)) = some (T6a (.tsl 2 ns) q es m (j + 1) true) := by
  have wj : IntKind.i64.wrap ((j : Int) + 1) = (j : Int) + 1 := wrap64 (by omega) (by omega)
  have h' : ¬ 0 ≤ x.rs := by omega
  subst hm
  rw [List.getElem?_eq_getElem hj, Option.some_inj] at hx
  unfold Nd.vs at hx
  simp [T6a, c6_b0, hj, hx, wj, h']
theorem s6y (hq : es.length = q) (i : Nat) (a b : Int) (h : x.rs = i) (hi : i < q) (he : es[i]? = some (row a b)) (hw : IntKind.i64.wrap (a + x.bu) = a + x.bu) :
    kNext (tidy [6, 38, 39, 40] 0) (execC call pu 0 k c6_b0 (T6a (.tsl 2 ns) q es m j d)) = some (T6a (.tsl 2 ns) q (es.set i (row (a + x.bu) b)) m (j + 1) true) := by
  have wj : IntKind.i64.wrap ((j : Int) + 1) = (j : Int) + 1 := wrap64 (by omega) (by omega)
  subst hm hq
  rw [List.getElem?_eq_getElem hj, Option.some_inj] at hx
  rw [List.getElem?_eq_getElem hi, Option.some_inj] at he
  unfold Nd.vs at hx
  rw [h] at hx
  unfold row at he ⊢
  simp [T6a, c6_b0, c6_r0, c6_a0, hj, hx, wj, hi, he, hw, freeze_nil]
  rw [if_pos (by kernel_rfl)]
  simp [wj]
end
end Go.AM.Ytllnlcifddhapaa
