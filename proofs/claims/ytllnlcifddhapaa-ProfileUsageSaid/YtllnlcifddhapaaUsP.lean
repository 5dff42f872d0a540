/- jacquardref28.Time, Weight, Late. -/
import Derived.Test.YtllnlcifddhapaaUsO
set_option linter.unusedVariables false
set_option linter.unusedSimpArgs false
namespace Go.AM.Ytllnlcifddhapaa
open Go Go.AM
set_option maxRecDepth 100000
set_option maxHeartbeats 0
def timeI (f : Fl) (s : Sc) (v : Int) : Int := if v < f.ins then s.S.getD v.toNat 0 else if v < f.ins + f.par then s.P.getD (v - f.ins).toNat 0 else if v = f.ins + f.par then 0 else s.dep
theorem d21 (k : Nat) (a : Arc) (ii : Int) (h : 0 ≤ a.lat ∧ a.lat ≤ 4096 ∧ 0 ≤ a.di ∧ a.di ≤ 256) (hi : 0 ≤ ii ∧ ii ≤ 256) : callF tbl pu (k + 1) 21 [.agg a.vs, .int .i64 ii] [] = some (.int .i64 (a.lat - ii * a.di), [], false) := by
  have h1 : 0 ≤ ii * a.di := Int.mul_nonneg hi.1 h.2.2.1
  have h2 : ii * a.di ≤ 256 * 256 := Int.mul_le_mul hi.2 h.2.2.2 h.2.2.1 (by omega)
  have w1 : IntKind.i64.wrap (ii * a.di) = ii * a.di := wrap64 (by omega) (by omega)
  have w2 : IntKind.i64.wrap (a.lat - ii * a.di) = a.lat - ii * a.di := wrap64 (by omega) (by omega)
  rw [callF_eq tbl21, Ytllnlcifddhapaa.c21]
  unfold Arc.vs
  simp [w1, w2]
theorem d20 (k : Nat) (f : Fl) (hf : f.Ok) (s : Sc) (hs : s.Ok) (hfit : fitsP f s) (hPb : s.P.length ≤ 100000) (v : Int) (hv : 0 ≤ v) (hw : IntKind.i64.wrap (f.ins + f.par) = f.ins + f.par) : callF tbl pu (k + 2) 20 [f.v, s.v, .int .i64 v] [] = some (.int .i64 (timeI f s v), [], false) := by
  have nS := hfit.nS
  have nP := hfit.nP
  have h18 := d18 k f.ins f.par f.loop f.va f.vr f.vn hf.a.tree hf.r.tree hf.n.tree
  rw [hw] at h18
  obtain ⟨ins, par, loop, va, vr, vn, A, R, N⟩ := f
  obtain ⟨ii, dep, vs, vp, vu, S, P, U⟩ := s
  obtain ⟨oa, or, on⟩ := hf
  obtain ⟨os, op, ou⟩ := hs
  simp only at oa or on os op ou
  have ta := oa.tree
  have tr := or.tree
  have tn := on.tree
  have ts := os.tree
  have tp := op.tree
  have tu := ou.tree
  have ka := V.cell_of_tree ta
  have kr := V.cell_of_tree tr
  have kn := V.cell_of_tree tn
  have ks := V.cell_of_tree ts
  have kp := V.cell_of_tree tp
  have ku := V.cell_of_tree tu
  simp only at nS nP hw h18 hPb
  unfold Fl.v Sc.v timeI
  simp only
  rw [callF_eq tbl20, Ytllnlcifddhapaa.c20]
  by_cases c1 : v < ins
  · have hl : v.toNat < (S.map ivs).length := by simp; omega
    have e := os.tsl hl
    have hl2 : v.toNat < S.length := by omega
    have hg := int_get hl2
    subst e
    rw [List.getElem?_eq_getElem hl, Option.some_inj] at hg
    have c0 : ¬ v < 0 := by omega
    have hll : (S.map ivs).length = S.length := by simp
    have c2 : v < (S.length : Int) := by omega
    rw [if_pos c1]
    generalize S.getD v.toNat 0 = z at *
    generalize hms : S.map ivs = ms at *
    rw [← hll] at c2
    unfold ivs at hg
    simp [ka, kr, kn, ks, kp, ku, ta, tr, tn, ts, tp, tu, c0, c1, c2, hl, hg]
  rw [if_neg c1]
  by_cases c3 : v < ins + par
  · have hl : (v - ins).toNat < (P.map ivs).length := by simp; omega
    have e := op.tsl hl
    have hl2 : (v - ins).toNat < P.length := by omega
    have hg := int_get hl2
    subst e
    rw [List.getElem?_eq_getElem hl, Option.some_inj] at hg
    have c0 : ¬ v - ins < 0 := by omega
    have ww : IntKind.i64.wrap (v - ins) = v - ins := wrap64 (by omega) (by omega)
    have hll : (P.map ivs).length = P.length := by simp
    have c2 : v - ins < (P.length : Int) := by omega
    rw [if_pos c3]
    generalize P.getD (v - ins).toNat 0 = z at *
    generalize hms : P.map ivs = ms at *
    rw [← hll] at c2
    unfold ivs at hg
    simp [ka, kr, kn, ks, kp, ku, ta, tr, tn, ts, tp, tu, callV_pu, h18, c1, c3, ww, c0, c2, hl, hg]
  rw [if_neg c3]
  by_cases c4 : v = ins + par
  · rw [if_pos c4]
    have c5 : ¬ ins + par < ins := by omega
    simp [ka, kr, kn, ks, kp, ku, ta, tr, tn, ts, tp, tu, callV_pu, h18, c1, c3, c4, c5]
  · rw [if_neg c4]
    simp [ka, kr, kn, ks, kp, ku, ta, tr, tn, ts, tp, tu, callV_pu, h18, c1, c3, c4]
def T14 (ins par : Int) (loop : Bool) (va vr vn : V) (ii dep : Int) (vs vp vu : V) (out : V) (Hx : Heap) (m j : Nat) (d : Bool) : St := ⟨[.undef, .undef, .ptr 0 1 0 0, .ptr 1 1 0 0, .undef, out, .undef, .undef, .undef, .undef, .int .i64 m, .int .i64 j, .undef, .undef, .undef, .undef, .undef, .undef, .undef, .undef, .undef, .undef, .undef, .undef, .undef, .undef, .undef, .undef, .undef, .undef, .undef, .undef, .undef, .undef, .undef, .undef, .undef, .undef, .undef, .undef, .undef], [bxF ins par loop va vr vn, bxS ii dep vs vp vu] ++ Hx, d⟩
section
variable (k : Nat) (ins par : Int) (loop : Bool) (vr vn : V) (ii dep : Int) (vs vp vu : V) (es : List (List V)) (m j : Nat) (a : Arc) (x y w : Int) (d : Bool) (hm : es.length = m) (hx : es[j]? = some a.vs) (hj : j < m) (hb : m ≤ 100000) (tr : vr.tree = true) (tn : vn.tree = true) (ts : vs.tree = true) (tp : vp.tree = true) (tu : vu.tree = true)
  (h1 : callF tbl pu k 20 [.agg [.int .i64 ins, .int .i64 par, .bool loop, .tsl 4 es, vr, vn], .agg [.int .i64 ii, .int .i64 dep, vs, vp, vu], .int .i64 a.to] [] = some (.int .i64 x, [], false))
  (h2 : callF tbl pu k 20 [.agg [.int .i64 ins, .int .i64 par, .bool loop, .tsl 4 es, vr, vn], .agg [.int .i64 ii, .int .i64 dep, vs, vp, vu], .int .i64 a.fr] [] = some (.int .i64 y, [], false))
  (h3 : callF tbl pu k 21 [.agg a.vs, .int .i64 ii] [] = some (.int .i64 w, [], false)) (hw : IntKind.i64.wrap (x - y) = x - y)
include hm hx hj hb tr tn ts tp tu h1 h2 h3 hw
theorem s14a (h : ¬ x - y < w) :
    kNext (tidy [2, 3, 5, 10, 11] 0) (execC (callF tbl pu k) pu 0 k c14_b0 (T14 ins par loop (.tsl 4 es) vr vn ii dep vs vp vu .nils [] m j d)) = some (T14 ins par loop (.tsl 4 es) vr vn ii dep vs vp vu .nils [] m (j + 1) true) := by
  have wj : IntKind.i64.wrap ((j : Int) + 1) = (j : Int) + 1 := wrap64 (by omega) (by omega)
  have kr := V.cell_of_tree tr
  have kn := V.cell_of_tree tn
  have ks := V.cell_of_tree ts
  have kp := V.cell_of_tree tp
  have ku := V.cell_of_tree tu
  subst hm
  rw [List.getElem?_eq_getElem hj, Option.some_inj] at hx
  unfold Arc.vs at hx h3
  simp [T14, bxF, bxS, c14_b0, c14_r0, c14_a0, hj, hx, wj, kr, kn, ks, kp, ku, tr, tn, ts, tp, tu, callV_pu, h1, h2, h3, hw, h]
theorem s14b (h : x - y < w) :
    ∃ r, kNext (tidy [2, 3, 5, 10, 11] 0) (execC (callF tbl pu k) pu 0 k c14_b0 (T14 ins par loop (.tsl 4 es) vr vn ii dep vs vp vu .nils [] m j d)) = some (T14 ins par loop (.tsl 4 es) vr vn ii dep vs vp vu (.sl 1 2 1 0 1) [⟨1, [r], 0, false, true⟩] m (j + 1) true) := by
  have wj : IntKind.i64.wrap ((j : Int) + 1) = (j : Int) + 1 := wrap64 (by omega) (by omega)
  have kr := V.cell_of_tree tr
  have kn := V.cell_of_tree tn
  have ks := V.cell_of_tree ts
  have kp := V.cell_of_tree tp
  have ku := V.cell_of_tree tu
  subst hm
  rw [List.getElem?_eq_getElem hj, Option.some_inj] at hx
  unfold Arc.vs at hx h3
  refine ⟨[.int .i64 j], ?_⟩
  simp [T14, bxF, bxS, c14_b0, c14_r0, c14_a0, hj, hx, wj, kr, kn, ks, kp, ku, tr, tn, ts, tp, tu, callV_pu, h1, h2, h3, hw, h, appV, elemsOf, roomB]
theorem s14c (os : List (List V)) (q : Nat) (hq : os.length = q) (hq2 : q ≤ 100000) (h : ¬ x - y < w) :
    kNext (tidy [2, 3, 5, 10, 11] 0) (execC (callF tbl pu k) pu 0 k c14_b0 (T14 ins par loop (.tsl 4 es) vr vn ii dep vs vp vu (.sl 1 2 q 0 q) [⟨1, os, 0, false, true⟩] m j d)) = some (T14 ins par loop (.tsl 4 es) vr vn ii dep vs vp vu (.sl 1 2 q 0 q) [⟨1, os, 0, false, true⟩] m (j + 1) true) := by
  have wj : IntKind.i64.wrap ((j : Int) + 1) = (j : Int) + 1 := wrap64 (by omega) (by omega)
  have kr := V.cell_of_tree tr
  have kn := V.cell_of_tree tn
  have ks := V.cell_of_tree ts
  have kp := V.cell_of_tree tp
  have ku := V.cell_of_tree tu
  subst hm
  rw [List.getElem?_eq_getElem hj, Option.some_inj] at hx
  unfold Arc.vs at hx h3
  simp [T14, bxF, bxS, c14_b0, c14_r0, c14_a0, hj, hx, wj, kr, kn, ks, kp, ku, tr, tn, ts, tp, tu, callV_pu, h1, h2, h3, hw, h]
theorem s14d (os : List (List V)) (q : Nat) (hq : os.length = q) (hq2 : q ≤ 100000) (h : x - y < w) :
    ∃ os', os'.length = q + 1 ∧ kNext (tidy [2, 3, 5, 10, 11] 0) (execC (callF tbl pu k) pu 0 k c14_b0 (T14 ins par loop (.tsl 4 es) vr vn ii dep vs vp vu (.sl 1 2 q 0 q) [⟨1, os, 0, false, true⟩] m j d)) = some (T14 ins par loop (.tsl 4 es) vr vn ii dep vs vp vu (.sl 1 2 (q + 1) 0 (q + 1)) [⟨1, os', 0, false, true⟩] m (j + 1) true) := by
  have wj : IntKind.i64.wrap ((j : Int) + 1) = (j : Int) + 1 := wrap64 (by omega) (by omega)
  have kr := V.cell_of_tree tr
  have kn := V.cell_of_tree tn
  have ks := V.cell_of_tree ts
  have kp := V.cell_of_tree tp
  have ku := V.cell_of_tree tu
  subst hm
  rw [List.getElem?_eq_getElem hj, Option.some_inj] at hx
  unfold Arc.vs at hx h3
  have hol : (os ++ [[V.int .i64 j]]).length = q + 1 := by simp [hq]
  refine ⟨os ++ [[.int .i64 j]], hol, ?_⟩
  have r1 : (q + 1) * 8 ≤ 140737488351232 := by omega
  have r2 : q + 1 ≤ 140737488351232 := by omega
  have lg : ¬ q + 1 ≤ q := by omega
  have tk : os.take q = os := List.take_of_length_le (by omega)
  have dr : os.drop (q + 1) = [] := List.drop_eq_nil_of_le (by omega)
  generalize hos : os ++ [[V.int .i64 j]] = os' at *
  simp [T14, bxF, bxS, c14_b0, c14_r0, c14_a0, hj, hx, wj, kr, kn, ks, kp, ku, tr, tn, ts, tp, tu, callV_pu, h1, h2, h3, hw, h, appV, elemsOf, roomB, hq, r1, r2, lg, tk, dr, hos, hol]
end
end Go.AM.Ytllnlcifddhapaa
