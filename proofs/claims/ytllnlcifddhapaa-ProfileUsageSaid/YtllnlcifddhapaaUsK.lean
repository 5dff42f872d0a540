/- jacquardref28.Fits: its rounds, and what it returns. -/
import Derived.Test.YtllnlcifddhapaaUsJ
import Derived.Test.YtllnlcifddhapaaUsH
set_option linter.unusedVariables false
set_option linter.unusedSimpArgs false
namespace Go.AM.Ytllnlcifddhapaa
open Go Go.AM
set_option maxRecDepth 100000
set_option maxHeartbeats 0
section
variable (k : Nat) (ins par : Int) (loop : Bool) (va vr vn : V) (ii dep : Int) (vs vp vu : V) (call : CallT)
section
variable (es ns us : List (List V)) (R : List Rs) (m j : Nat) (x : Nd) (s u : Int) (d : Bool) (hm : es.length = m) (hx : es[j]? = some (ivs s)) (hj : j < m) (hb : m ≤ 1000000000) (ta : va.tree = true) (tp : vp.tree = true) (hr : Sl 4 (R.map Rs.vs) vr) (hn : ns[j]? = some x.vs) (hu : us[j]? = some (ivs u)) (hrs : x.rs < R.length)
include hm hx hj hb ta tp hr hn hu hrs
theorem s12b (h : btw 0 s 4096 = true ∧ unB R x u) :
    kNext (tidy [2, 3, 60, 61] 0) (execC call pu 0 k c12_b1 (T12b ins par loop va vr (.tsl 2 ns) ii dep (.tsl 1 es) vp (.tsl 1 us) m j d)) = some (T12b ins par loop va vr (.tsl 2 ns) ii dep (.tsl 1 es) vp (.tsl 1 us) m (j + 1) true) := by
  have wj : IntKind.i64.wrap ((j : Int) + 1) = (j : Int) + 1 := wrap64 (by omega) (by omega)
  obtain ⟨h1, h2, h3⟩ := h
  rw [btw_iff] at h1
  have c1 : ¬ s < 0 := by omega
  have c2 : ¬ 4096 < s := by omega
  have ka := V.cell_of_tree ta
  have tr := hr.tree
  have kr := hr.cell
  have kp := V.cell_of_tree tp
  subst hm
  obtain ⟨hnl, hn⟩ := List.getElem?_eq_some_iff.mp hn
  obtain ⟨hul, hu⟩ := List.getElem?_eq_some_iff.mp hu
  rw [List.getElem?_eq_getElem hj, Option.some_inj] at hx
  unfold ivs at hx hu
  unfold Nd.vs at hn
  by_cases e : x.rs < 0
  · have e' : ¬ 0 ≤ x.rs := by omega
    have h2 := h2 e
    simp (maxSteps := 3000000) [T12b, bxF, bxS, c12_b1, c12_r0, c12_a0, hj, hx, hnl, hn, hul, hu, wj, ka, kr, kp, ta, tr, tp, c1, c2, e, e', h2]
  · have e' : 0 ≤ x.rs := by omega
    have h3 := h3 e'
    have hq : x.rs.toNat < R.length := by omega
    have hrl : x.rs.toNat < (R.map Rs.vs).length := by simpa using hq
    obtain rfl := hr.tsl hrl
    have hg : R.getD x.rs.toNat ⟨0, 0, 0, 0⟩ = R[x.rs.toNat] := by simp [List.getD, hq]
    have hes : (R.map Rs.vs)[x.rs.toNat] = Rs.vs R[x.rs.toNat] := by simp
    rw [hg, btw_iff] at h3
    have c3 : ¬ u < 0 := by omega
    have c4 : ¬ R[x.rs.toNat].ct ≤ u := by omega
    generalize R.map Rs.vs = rs at *
    generalize R[x.rs.toNat] = r at *
    unfold Rs.vs at hes
    simp (maxSteps := 3000000) [T12b, bxF, bxS, c12_b1, c12_r0, c12_a0, hj, hx, hnl, hn, hul, hu, wj, ka, kp, ta, tp, c1, c2, e, e', hrl, hes, c3, c4]
theorem r12b (hbad : ¬ (btw 0 s 4096 = true ∧ unB R x u)) :
    retF 4 (execC call pu 0 k c12_b1 (T12b ins par loop va vr (.tsl 2 ns) ii dep (.tsl 1 es) vp (.tsl 1 us) m j d)) := by
  have ka := V.cell_of_tree ta
  have tr := hr.tree
  have kr := hr.cell
  have kp := V.cell_of_tree tp
  subst hm
  obtain ⟨hnl, hn⟩ := List.getElem?_eq_some_iff.mp hn
  obtain ⟨hul, hu⟩ := List.getElem?_eq_some_iff.mp hu
  rw [List.getElem?_eq_getElem hj, Option.some_inj] at hx
  unfold ivs at hx hu
  unfold Nd.vs at hn
  by_cases c1 : s < 0
  · simp [T12b, bxF, bxS, c12_b1, c12_r0, c12_a0, hj, hx, hnl, hn, hul, hu, ka, kr, kp, ta, tr, tp, c1]
  by_cases c2 : 4096 < s
  · simp [T12b, bxF, bxS, c12_b1, c12_r0, c12_a0, hj, hx, hnl, hn, hul, hu, ka, kr, kp, ta, tr, tp, c1, c2]
  have h1 : btw 0 s 4096 = true := btw_iff.mpr (by omega)
  by_cases e : x.rs < 0
  · have e' : ¬ 0 ≤ x.rs := by omega
    have h2 : ¬ u = -1 := fun h => hbad ⟨h1, fun _ => h, fun h => absurd h e'⟩
    simp (maxSteps := 3000000) [T12b, bxF, bxS, c12_b1, c12_r0, c12_a0, hj, hx, hnl, hn, hul, hu, ka, kr, kp, ta, tr, tp, c1, c2, e, e', h2]
  · have e' : 0 ≤ x.rs := by omega
    have hq : x.rs.toNat < R.length := by omega
    have hrl : x.rs.toNat < (R.map Rs.vs).length := by simpa using hq
    obtain rfl := hr.tsl hrl
    have hg : R.getD x.rs.toNat ⟨0, 0, 0, 0⟩ = R[x.rs.toNat] := by simp [List.getD, hq]
    have hes : (R.map Rs.vs)[x.rs.toNat] = Rs.vs R[x.rs.toNat] := by simp
    have h3 : ¬ (0 ≤ u ∧ u ≤ R[x.rs.toNat].ct - 1) := fun h => hbad ⟨h1, fun h => absurd h e, fun _ => by rw [hg]; exact btw_iff.mpr h⟩
    generalize R.map Rs.vs = rs at *
    generalize R[x.rs.toNat] = r at *
    unfold Rs.vs at hes
    by_cases c3 : u < 0
    · simp (maxSteps := 3000000) [T12b, bxF, bxS, c12_b1, c12_r0, c12_a0, hj, hx, hnl, hn, hul, hu, ka, kp, ta, tp, c1, c2, e, e', hrl, hes, c3]
    · have c4 : r.ct ≤ u := by omega
      simp (maxSteps := 3000000) [T12b, bxF, bxS, c12_b1, c12_r0, c12_a0, hj, hx, hnl, hn, hul, hu, ka, kp, ta, tp, c1, c2, e, e', hrl, hes, c3, c4]
end
section
variable (es : List (List V)) (m j : Nat) (x : Int) (d : Bool) (hm : es.length = m) (hx : es[j]? = some (ivs x)) (hj : j < m) (hb : m ≤ 1000000000) (ts : vs.tree = true) (tu : vu.tree = true)
include hm hx hj hb ts tu
theorem s12a (h : btw 0 x 4096 = true) :
    kNext (tidy [3, 127, 128] 0) (execC call pu 0 k c12_b0 (T12a ins par loop va vr vn ii dep vs (.tsl 1 es) vu m j d)) = some (T12a ins par loop va vr vn ii dep vs (.tsl 1 es) vu m (j + 1) d) := by
  have wj : IntKind.i64.wrap ((j : Int) + 1) = (j : Int) + 1 := wrap64 (by omega) (by omega)
  rw [btw_iff] at h
  have c1 : ¬ x < 0 := by omega
  have c2 : ¬ 4096 < x := by omega
  have ks := V.cell_of_tree ts
  have ku := V.cell_of_tree tu
  subst hm
  rw [List.getElem?_eq_getElem hj, Option.some_inj] at hx
  unfold ivs at hx
  simp [T12a, bxS, c12_b0, hj, hx, wj, ks, ku, ts, tu, c1, c2]
theorem r12a (hbad : ¬ btw 0 x 4096 = true) :
    retF 4 (execC call pu 0 k c12_b0 (T12a ins par loop va vr vn ii dep vs (.tsl 1 es) vu m j d)) := by
  rw [btw_iff] at hbad
  have ks := V.cell_of_tree ts
  have ku := V.cell_of_tree tu
  subst hm
  rw [List.getElem?_eq_getElem hj, Option.some_inj] at hx
  unfold ivs at hx
  by_cases c1 : x < 0
  · simp [T12a, bxS, c12_b0, hj, hx, ks, ku, ts, tu, c1]
  by_cases c2 : 4096 < x
  · simp [T12a, bxS, c12_b0, hj, hx, ks, ku, ts, tu, c1, c2]
  omega
end
end
theorem d12 (K : Nat) (f : Fl) (hf : f.Ok) (s : Sc) (hs : s.Ok) (hv : validP f) (hS : s.S.length ≤ 10000) (hP : s.P.length ≤ 10000) (hU : s.U.length ≤ 10000) (hK : 10050 ≤ K) : RB (fitsP f s) (callF tbl pu (K + 1) 12 [f.v, s.v] []) := by
  obtain ⟨ins, par, loop, va, vr, vn, A, R, N⟩ := f
  obtain ⟨ii, dep, vs, vp, vu, S, P, U⟩ := s
  obtain ⟨oa, or, on⟩ := hf
  obtain ⟨os, op, ou⟩ := hs
  simp only at oa or on os op ou hS hP hU
  have ta := oa.tree
  have tr := or.tree
  have tn := on.tree
  have ts := os.tree
  have tp := op.tree
  have tu := ou.tree
  have ka := V.cell_of_tree ta
  have kr := V.cell_of_tree tr
  have kn := V.cell_of_tree tn
  have ks := V.cell_of_tree ts
  have kp := V.cell_of_tree tp
  have ku := V.cell_of_tree tu
  have ls := os.len
  have lp := op.len
  have lu := ou.len
  have ss := os.lst
  have sp := op.lst
  have su := ou.lst
  rw [List.length_map] at ls lp lu
  rw [callF_eq tbl12, Ytllnlcifddhapaa.c12]
  unfold Fl.v Sc.v
  by_cases n1 : (S.length : Int) = ins
  rotate_left
  · simp [ka, kr, kn, ks, kp, ku, ta, tr, tn, ts, tp, tu, kLen_lst, ss, ls, n1]
    exact RB_false fun h => n1 h.nS
  by_cases n2 : (U.length : Int) = ins
  rotate_left
  · simp [ka, kr, kn, ks, kp, ku, ta, tr, tn, ts, tp, tu, kLen_lst, ss, ls, su, lu, n1, n2]
    exact RB_false fun h => n2 h.nU
  by_cases n3 : (P.length : Int) = par
  rotate_left
  · simp [ka, kr, kn, ks, kp, ku, ta, tr, tn, ts, tp, tu, kLen_lst, ss, ls, su, lu, sp, lp, n1, n2, n3]
    exact RB_false fun h => n3 h.nP
  by_cases c1 : ii < 0
  · simp [ka, kr, kn, ks, kp, ku, ta, tr, tn, ts, tp, tu, kLen_lst, ss, ls, su, lu, sp, lp, n1, n2, n3, c1]
    exact RB_false fun h => by have := btw_iff.mp h.ii; simp only at this; omega
  by_cases c1b : 256 < ii
  · simp [ka, kr, kn, ks, kp, ku, ta, tr, tn, ts, tp, tu, kLen_lst, ss, ls, su, lu, sp, lp, n1, n2, n3, c1, c1b]
    exact RB_false fun h => by have := btw_iff.mp h.ii; simp only at this; omega
  by_cases c2 : decide (0 < ii) = loop
  rotate_left
  · have c2' : (decide (0 < ii) == loop) = false := by simpa using c2
    simp [ka, kr, kn, ks, kp, ku, ta, tr, tn, ts, tp, tu, kLen_lst, ss, ls, su, lu, sp, lp, n1, n2, n3, c1, c1b, c2']
    exact RB_false fun h => c2 h.lo
  have c2' : (decide (0 < ii) == loop) = true := by simpa using c2
  by_cases c3 : dep < 1
  · simp [ka, kr, kn, ks, kp, ku, ta, tr, tn, ts, tp, tu, kLen_lst, ss, ls, su, lu, sp, lp, n1, n2, n3, c1, c1b, c2', c3]
    exact RB_false fun h => by have := btw_iff.mp h.dep; simp only at this; omega
  by_cases c3b : 4096 < dep
  · simp [ka, kr, kn, ks, kp, ku, ta, tr, tn, ts, tp, tu, kLen_lst, ss, ls, su, lu, sp, lp, n1, n2, n3, c1, c1b, c2', c3, c3b]
    exact RB_false fun h => by have := btw_iff.mp h.dep; simp only at this; omega
  simp [execC_loop, -kIter_succ, -tidy, ka, kr, kn, ks, kp, ku, ta, tr, tn, ts, tp, tu, kLen_lst, ss, ls, su, lu, sp, lp, n1, n2, n3, c1, c1b, c2', c3, c3b]
  have nN : (N.length : Int) = ins := hv.1.2.2
  have all_get : ∀ l : List Int, (∀ j, j < l.length → btw 0 (l.getD j 0) 4096 = true) ↔ ∀ x ∈ l, btw 0 x 4096 = true := by
    intro l
    rw [← all_idx (p := fun x => btw 0 x 4096 = true)]
    constructor
    · intro h j hj; have := h j hj; simpa [List.getD, hj] using this
    · intro h j hj; have := h j hj; simpa [List.getD, hj] using this
  have L1 := loop_all (pre := tidy [2, 3, 60, 61] 0) (f := execC (callF tbl pu K) pu 0 K c12_b1) (fun j => T12b ins par loop va vr vn ii dep vs vp vu S.length j (j != 0)) (fun j => btw 0 (S.getD j 0) 4096 = true ∧ unB R (ndAt N j) (U.getD j 0)) S.length 4
    (.exit 0, ⟨(T12b ins par loop va vr vn ii dep vs vp vu S.length S.length (S.length != 0)).fr.set 62 (.bool false), [bxF ins par loop va vr vn, bxS ii dep vs vp vu], (S.length != 0)⟩)
    (by
      intro j hj hok
      have e1 := ou.tsl (i := j) (by simp; omega)
      have e2 := on.tsl (i := j) (by simp; omega)
      have e3 := os.tsl (i := j) (by simp; omega)
      have := s12b K ins par loop va vr ii dep vp (callF tbl pu K) (S.map ivs) (N.map Nd.vs) (U.map ivs) R S.length j (ndAt N j) (S.getD j 0) (U.getD j 0) (j != 0) (by simp) (int_get hj) hj (by omega) ta tp or (ndAt_get (by omega)) (int_get (by omega)) (valid_nd hv (by simp only; omega)) hok
      rw [← e1, ← e2, ← e3] at this
      rw [this]; simp)
    (by
      intro j hj hok
      have e1 := ou.tsl (i := j) (by simp; omega)
      have e2 := on.tsl (i := j) (by simp; omega)
      have e3 := os.tsl (i := j) (by simp; omega)
      have := r12b K ins par loop va vr ii dep vp (callF tbl pu K) (S.map ivs) (N.map Nd.vs) (U.map ivs) R S.length j (ndAt N j) (S.getD j 0) (U.getD j 0) (j != 0) (by simp) (int_get hj) hj (by omega) ta tp or (ndAt_get (by omega)) (int_get (by omega)) (valid_nd hv (by simp only; omega)) hok
      rw [← e1, ← e2, ← e3] at this
      exact this)
    (by simp [T12b, c12_b1]) (by simp)
  rcases L1 with ⟨g1, h1⟩ | ⟨g1, s', e1, h1⟩
  rotate_left
  · rw [h1 _ _ (by omega) (by simp [T12b, bxF, bxS, ka, kr, kn, ks, kp, ku, ta, tr, tn, ts, tp, tu, n1])]
    simp only [kBlk_ret, kSeq_ret]
    exact RB_ret rfl e1 fun h => g1 fun j hj => ⟨(all_get S).mpr h.S j hj, h.U j (by simp only; omega)⟩
  rw [h1 _ _ (by omega) (by simp [T12b, bxF, bxS, ka, kr, kn, ks, kp, ku, ta, tr, tn, ts, tp, tu, n1])]
  simp [T12b, bxF, bxS, execC_loop, -kIter_succ, -tidy, ka, kr, kn, ks, kp, ku, ta, tr, tn, ts, tp, tu, kLen_lst, sp, lp]
  have L2 := loop_all (pre := tidy [3, 127, 128] 0) (f := execC (callF tbl pu K) pu 0 K c12_b0) (fun j => T12a ins par loop va vr vn ii dep vs vp vu P.length j (S.length != 0)) (fun j => btw 0 (P.getD j 0) 4096 = true) P.length 4
    (.exit 2, ⟨(T12a ins par loop va vr vn ii dep vs vp vu P.length P.length (S.length != 0)).fr.set 129 (.bool false), [bxS ii dep vs vp vu], (S.length != 0)⟩)
    (by
      intro j hj hok
      have e1 := op.tsl (i := j) (by simpa using hj)
      have := s12a K ins par loop va vr vn ii dep vs vu (callF tbl pu K) (P.map ivs) P.length j (P.getD j 0) (S.length != 0) (by simp) (int_get hj) hj (by omega) ts tu hok
      rw [← e1] at this
      exact this)
    (by
      intro j hj hok
      have e1 := op.tsl (i := j) (by simpa using hj)
      have := r12a K ins par loop va vr vn ii dep vs vu (callF tbl pu K) (P.map ivs) P.length j (P.getD j 0) (S.length != 0) (by simp) (int_get hj) hj (by omega) ts tu hok
      rw [← e1] at this
      exact this)
    (by simp [T12a, c12_b0]) (by simp)
  rcases L2 with ⟨g2, h2⟩ | ⟨g2, s', e1, h2⟩
  rotate_left
  · rw [h2 _ _ (by omega) (by simp [T12a, bxF, bxS, ka, kr, kn, ks, kp, ku, ta, tr, tn, ts, tp, tu, n3])]
    simp only [kBlk_ret, kSeq_ret]
    exact RB_ret rfl e1 fun h => g2 ((all_get P).mpr h.P)
  rw [h2 _ _ (by omega) (by simp [T12a, bxF, bxS, ka, kr, kn, ks, kp, ku, ta, tr, tn, ts, tp, tu, n3])]
  simp [T12a]
  exact RB_true ⟨n1, n2, n3, btw_iff.mpr (by simp only; omega), c2, btw_iff.mpr (by simp only; omega), (all_get S).mp fun j hj => (g1 j hj).1, (all_get P).mp g2, fun j hj => (g1 j (by simp only at hj; omega)).2⟩
end Go.AM.Ytllnlcifddhapaa
