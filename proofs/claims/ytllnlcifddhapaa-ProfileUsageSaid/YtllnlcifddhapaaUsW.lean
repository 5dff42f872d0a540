/- jacquardref28.Clashes and Legal, jacquardref56.Fits. -/
import Derived.Test.YtllnlcifddhapaaUsU
set_option linter.unusedVariables false
set_option linter.unusedSimpArgs false
namespace Go.AM.Ytllnlcifddhapaa
open Go Go.AM
set_option maxRecDepth 100000
set_option maxHeartbeats 0
theorem fits_get {l : List Int} (hl : ∀ x ∈ l, btw 0 x 4096 = true) {i : Nat} (hi : i < l.length) : 0 ≤ l.getD i 0 ∧ l.getD i 0 ≤ 4096 := by
  have e : l.getD i 0 = l[i] := by simp [List.getD, hi]
  rw [e]
  exact btw_iff.mp (hl _ (List.getElem_mem hi))
theorem d15 (K : Nat) (f : Fl) (hf : f.Ok) (s : Sc) (hs : s.Ok) (hv : validP f) (hfit : fitsP f s) (hN : f.N.length ≤ 5000) (hK : 5010 ≤ K) : RL 2 (∀ i q, i ≤ q → q < f.N.length → NoClF f s i q) (callF tbl pu (K + 3) 15 [f.v, s.v] []) := by
  have nN : (f.N.length : Int) = f.ins := hv.1.2.2
  have nS := hfit.nS
  have nU := hfit.nU
  have hii := btw_iff.mp hfit.ii
  have h22 : ∀ i q : Nat, i < f.N.length → q < f.N.length → RF (NoClF f s i q) (callF tbl pu (K + 2) 22 [f.v, s.v, .int .i64 i, .int .i64 q] []) := by
    intro i q hi hq
    have e1 := hs.s.tsl (i := i) (by simp; omega)
    have e2 := hs.u.tsl (i := i) (by simp; omega)
    have e3 := hf.n.tsl (i := i) (by simp; omega)
    unfold Fl.v Sc.v NoClF
    rw [e1, e2, e3]
    exact d22 K f.ins f.par f.loop f.va f.vr s.ii s.dep s.vp _ _ _ i q (ndAt f.N i) (ndAt f.N q) _ _ _ _ hf.a.tree hf.r.tree hs.p.tree (int_get (by omega)) (int_get (by omega)) (int_get (by omega)) (int_get (by omega)) (ndAt_get hi) (ndAt_get hq) hii (fits_get hfit.S (by omega)) (fits_get hfit.S (by omega)) (by omega)
  obtain ⟨r, ⟨out, Hx, d, rfl, hout⟩, hit⟩ := loop15 (K + 2) f.ins f.par f.loop f.va f.vr f.vn s.ii s.dep s.vs s.vp s.vu hf.a.tree hf.r.tree hf.n.tree hs.s.tree hs.p.tree hs.u.tree f.N.length nN hN (NoClF f s) h22 (by omega)
  generalize hPP : (∀ i q, i ≤ q → q < f.N.length → NoClF f s i q) = PP at hout ⊢
  clear h22 hPP
  obtain ⟨ins, par, loop, va, vr, vn, A, R, N⟩ := f
  obtain ⟨ii, dep, vs, vp, vu, S, P, U⟩ := s
  obtain ⟨oa, or, on⟩ := hf
  obtain ⟨os, op, ou⟩ := hs
  simp only at oa or on os op ou
  have ta := oa.tree
  have tr := or.tree
  have tn := on.tree
  have ts := os.tree
  have tp := op.tree
  have tu := ou.tree
  have ka := V.cell_of_tree ta
  have kr := V.cell_of_tree tr
  have kn := V.cell_of_tree tn
  have ks := V.cell_of_tree ts
  have kp := V.cell_of_tree tp
  have ku := V.cell_of_tree tu
  simp only at hit nN hN
  unfold Fl.v Sc.v
  rw [callF_eq tbl15, Ytllnlcifddhapaa.c15]
  simp [execC_loop, -kIter_succ, -tidy, ka, kr, kn, ks, kp, ku, ta, tr, tn, ts, tp, tu]
  rw [hit _ _ (by omega) (by simp [O15, bxF, bxS, ka, kr, kn, ks, kp, ku, ta, tr, tn, ts, tp, tu])]
  rcases hout with ⟨rfl, rfl, h⟩ | ⟨z, es, hz, hzb, rfl, rfl⟩
  · simp [O15]
    exact ⟨_, _, _, rfl, .inl ⟨rfl, rfl, h⟩⟩
  · simp [O15, bxF, bxS]
    exact ⟨_, _, _, rfl, .inr ⟨z, es, rfl, hz, rfl⟩⟩
/-- a bool, and what true says -/
def RT (P : Prop) (x : Option (V × Heap × Bool)) : Prop := ∃ b d, x = some (.bool b, [], d) ∧ (b = true → P)
theorem RT_mk {P : Prop} {b d : Bool} (h : b = true → P) : RT P (some (.bool b, [], d)) := ⟨b, d, rfl, h⟩
def T9 (ins par : Int) (loop : Bool) (va vr vn : V) (ii dep : Int) (vs vp vu : V) (m j : Nat) (d : Bool) : St := ⟨[.undef, .undef, .ptr 0 1 0 0, .ptr 1 1 0 0, .undef, .undef, .undef, .undef, .undef, .undef, .undef, .undef, .undef, .undef, .undef, .undef, .undef, .undef, .undef, .int .i64 m, .int .i64 j, .undef, .undef, .undef, .undef, .undef, .undef, .undef, .undef, .undef, .undef, .undef, .undef, .undef, .undef, .undef, .undef, .undef, .undef, .undef, .undef, .undef, .undef, .undef, .undef, .undef, .undef], [bxF ins par loop va vr vn, bxS ii dep vs vp vu], d⟩
section
variable (call : CallT) (k : Nat) (ins par : Int) (loop : Bool) (va vr vn : V) (ii dep : Int) (vs vu : V) (es : List (List V)) (m j : Nat) (x : Int) (d : Bool) (hm : es.length = m) (hx : es[j]? = some (ivs x)) (hj : j < m) (hb : m ≤ 100000) (ta : va.tree = true) (tr : vr.tree = true) (tn : vn.tree = true) (ts : vs.tree = true) (tu : vu.tree = true)
include hm hx hj hb ta tr tn ts tu
theorem s9 (h : loop = true ∨ x = 0) : kNext (tidy [2, 3, 19, 20] 0) (execC call pu 0 k c9_b0 (T9 ins par loop va vr vn ii dep vs (.tsl 1 es) vu m j d)) = some (T9 ins par loop va vr vn ii dep vs (.tsl 1 es) vu m (j + 1) d) := by
  have wj : IntKind.i64.wrap ((j : Int) + 1) = (j : Int) + 1 := wrap64 (by omega) (by omega)
  have ka := V.cell_of_tree ta
  have kr := V.cell_of_tree tr
  have kn := V.cell_of_tree tn
  have ks := V.cell_of_tree ts
  have ku := V.cell_of_tree tu
  subst hm
  rw [List.getElem?_eq_getElem hj, Option.some_inj] at hx
  unfold ivs at hx
  cases loop with
  | true => simp [T9, bxF, bxS, c9_b0, hj, wj, ka, kr, kn, ks, ku, ta, tr, tn, ts, tu]
  | false =>
    have h0 : x = 0 := by rcases h with h | h; cases h; exact h
    subst h0
    simp [T9, bxF, bxS, c9_b0, hj, hx, wj, ka, kr, kn, ks, ku, ta, tr, tn, ts, tu]
theorem r9 (h : ¬ (loop = true ∨ x = 0)) : retF 4 (execC call pu 0 k c9_b0 (T9 ins par loop va vr vn ii dep vs (.tsl 1 es) vu m j d)) := by
  have ka := V.cell_of_tree ta
  have kr := V.cell_of_tree tr
  have kn := V.cell_of_tree tn
  have ks := V.cell_of_tree ts
  have ku := V.cell_of_tree tu
  subst hm
  rw [List.getElem?_eq_getElem hj, Option.some_inj] at hx
  unfold ivs at hx
  cases loop with
  | true => exact absurd (.inl rfl) h
  | false =>
    have h0 : ¬ x = 0 := fun e => h (.inr e)
    simp [T9, bxF, bxS, c9_b0, hj, hx, ka, kr, kn, ks, ku, ta, tr, tn, ts, tu, h0]
end
theorem d9 (K : Nat) (f : Fl) (hf : f.Ok) (s : Sc) (hs : s.Ok) (hv : validP f) (hfit : fitsP f s) (hA : f.A.length ≤ 10000) (hN : f.N.length ≤ 5000) (hS : s.S.length ≤ 10000) (hP : s.P.length ≤ 10000) (hU : s.U.length ≤ 10000) (hK : 20000 ≤ K) :
    RT ((∀ a ∈ f.A, okA f s a) ∧ ∀ i q, i ≤ q → q < f.N.length → NoClF f s i q) (callF tbl pu (K + 4) 9 [f.v, s.v] []) := by
  obtain ⟨b12, d12', h12, hb12⟩ := d12 (K + 2) f hf s hs hv hS hP hU (by omega)
  obtain rfl : b12 = true := hb12.mpr hfit
  obtain ⟨v14, H14, d14', h14, F14⟩ := d14 K f hf s hs hv hfit hA (by omega) (by omega)
  obtain ⟨v15, H15, d15', h15, F15⟩ := d15 K f hf s hs hv hfit hN (by omega)
  generalize hP1 : (∀ a ∈ f.A, okA f s a) = P1 at F14 ⊢
  generalize hP2 : (∀ i q, i ≤ q → q < f.N.length → NoClF f s i q) = P2 at F15 ⊢
  clear hP1 hP2 hb12 hfit hv
  obtain ⟨ins, par, loop, va, vr, vn, A, R, N⟩ := f
  obtain ⟨ii, dep, vs, vp, vu, S, P, U⟩ := s
  obtain ⟨oa, or, on⟩ := hf
  obtain ⟨os, op, ou⟩ := hs
  simp only at oa or on os op ou
  have ta := oa.tree
  have tr := or.tree
  have tn := on.tree
  have ts := os.tree
  have tp := op.tree
  have tu := ou.tree
  have ka := V.cell_of_tree ta
  have kr := V.cell_of_tree tr
  have kn := V.cell_of_tree tn
  have ks := V.cell_of_tree ts
  have kp := V.cell_of_tree tp
  have ku := V.cell_of_tree tu
  simp only at hP
  have lp := op.len
  have sp := op.lst
  rw [List.length_map] at lp
  unfold Fl.v Sc.v at *
  simp only at h12 h14 h15
  rw [callF_eq tbl9, Ytllnlcifddhapaa.c9]
  by_cases c1 : dep < ii
  · simp [ka, kr, kn, ks, kp, ku, ta, tr, tn, ts, tp, tu, callV_pu, h12, c1]
    exact RT_mk fun h => by cases h
  simp [execC_loop, -kIter_succ, -tidy, ka, kr, kn, ks, kp, ku, ta, tr, tn, ts, tp, tu, callV_pu, h12, c1, kLen_lst, sp, lp]
  have L1 := loop_all (pre := tidy [2, 3, 19, 20] 0) (f := execC (callF tbl pu (K + 3)) pu 0 (K + 3) c9_b0) (fun j => T9 ins par loop va vr vn ii dep vs vp vu P.length j false) (fun j => loop = true ∨ P.getD j 0 = 0) P.length 4
    (.exit 0, ⟨(T9 ins par loop va vr vn ii dep vs vp vu P.length P.length false).fr.set 21 (.bool false), [bxF ins par loop va vr vn, bxS ii dep vs vp vu], false⟩)
    (by
      intro j hj hok
      have e := op.tsl (i := j) (by simpa using hj)
      have := s9 (callF tbl pu (K + 3)) (K + 3) ins par loop va vr vn ii dep vs vu (P.map ivs) P.length j _ false (by simp) (int_get hj) hj (by omega) ta tr tn ts tu hok
      rw [← e] at this
      exact this)
    (by
      intro j hj hok
      have e := op.tsl (i := j) (by simpa using hj)
      have := r9 (callF tbl pu (K + 3)) (K + 3) ins par loop va vr vn ii dep vs vu (P.map ivs) P.length j _ false (by simp) (int_get hj) hj (by omega) ta tr tn ts tu hok
      rw [← e] at this
      exact this)
    (by simp [T9, c9_b0]) (by simp)
  rcases L1 with ⟨g1, h1⟩ | ⟨g1, s', e1, h1⟩
  rotate_left
  · rw [h1 _ _ (by omega) (by simp [T9, bxF, bxS, ka, kr, kn, ks, kp, ku, ta, tr, tn, ts, tp, tu])]
    simp only [kBlk_ret, kSeq_ret]
    rw [fin_false rfl e1]
    exact RT_mk fun h => by cases h
  rw [h1 _ _ (by omega) (by simp [T9, bxF, bxS, ka, kr, kn, ks, kp, ku, ta, tr, tn, ts, tp, tu])]
  rcases F14 with ⟨rfl, rfl, p1⟩ | ⟨q, es, rfl, hq, rfl⟩
  · rcases F15 with ⟨rfl, rfl, p2⟩ | ⟨q, es, rfl, hq, rfl⟩
    · simp [T9, bxF, bxS, ka, kr, kn, ks, kp, ku, ta, tr, tn, ts, tp, tu, callV_pu, h14, h15]
      exact RT_mk fun _ => ⟨p1, p2⟩
    · have z : ¬ (q : Int) + 1 = 0 := by omega
      simp [T9, bxF, bxS, ka, kr, kn, ks, kp, ku, ta, tr, tn, ts, tp, tu, callV_pu, h14, h15, z]
      exact RT_mk fun h => by cases h
  · have z : ¬ (q : Int) + 1 = 0 := by omega
    simp [T9, bxF, bxS, ka, kr, kn, ks, kp, ku, ta, tr, tn, ts, tp, tu, callV_pu, h14, z]
    exact RT_mk fun h => by cases h
theorem d7 (K : Nat) (f : Fl) (hf : f.Ok) (s : Sc) (hs : s.Ok) (hA : f.A.length ≤ 10000) (hR : f.R.length ≤ 10000) (hN : f.N.length ≤ 10000) (hS : s.S.length ≤ 10000) (hP : s.P.length ≤ 10000) (hU : s.U.length ≤ 10000) (hK : 60000 ≤ K) :
    RB (validP f ∧ fitsP f s) (callF tbl pu (K + 2) 7 [f.v, s.v] []) := by
  have h11 := d11 (K + 1 - f.A.length - f.R.length - f.N.length - 10020) f hf (by omega) (by omega) (by omega)
  rw [show K + 1 - f.A.length - f.R.length - f.N.length - 10020 + f.A.length + f.R.length + f.N.length + 10020 = K + 1 by omega] at h11
  obtain ⟨b, d, h11, hb⟩ := h11
  have h12 : validP f → RB (fitsP f s) (callF tbl pu (K + 1) 12 [f.v, s.v] []) := fun hv => d12 K f hf s hs hv hS hP hU (by omega)
  generalize hV : validP f = VP at *
  generalize hF : fitsP f s = FP at *
  clear hV hF
  obtain ⟨ins, par, loop, va, vr, vn, A, R, N⟩ := f
  obtain ⟨ii, dep, vs, vp, vu, S, P, U⟩ := s
  obtain ⟨oa, or, on⟩ := hf
  obtain ⟨os, op, ou⟩ := hs
  simp only at oa or on os op ou
  have ta := oa.tree
  have tr := or.tree
  have tn := on.tree
  have ts := os.tree
  have tp := op.tree
  have tu := ou.tree
  have ka := V.cell_of_tree ta
  have kr := V.cell_of_tree tr
  have kn := V.cell_of_tree tn
  have ks := V.cell_of_tree ts
  have kp := V.cell_of_tree tp
  have ku := V.cell_of_tree tu
  unfold Fl.v Sc.v at *
  simp only at h11 h12
  rw [callF_eq tbl7, Ytllnlcifddhapaa.c7]
  cases b with
  | false =>
    simp [ka, kr, kn, ks, kp, ku, ta, tr, tn, ts, tp, tu, callV_pu, h11]
    exact RB_false fun h => by have := hb.mpr h.1; cases this
  | true =>
    have hv := hb.mp rfl
    obtain ⟨b2, d2, h12, hb2⟩ := h12 hv
    simp [ka, kr, kn, ks, kp, ku, ta, tr, tn, ts, tp, tu, callV_pu, h11, h12]
    exact ⟨b2, _, rfl, ⟨fun h => ⟨hv, hb2.mp h⟩, fun h => hb2.mpr h.2⟩⟩
end Go.AM.Ytllnlcifddhapaa
