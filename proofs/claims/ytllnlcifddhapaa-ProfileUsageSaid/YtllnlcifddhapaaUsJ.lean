/- schedcheck.Fits: what it returns. -/
import Derived.Test.YtllnlcifddhapaaUsI
set_option linter.unusedVariables false
set_option linter.unusedSimpArgs false
namespace Go.AM.Ytllnlcifddhapaa
open Go Go.AM
set_option maxRecDepth 100000
set_option maxHeartbeats 0
structure fitsP (f : Fl) (s : Sc) : Prop where
  nS : (s.S.length : Int) = f.ins
  nU : (s.U.length : Int) = f.ins
  nP : (s.P.length : Int) = f.par
  ii : btw 0 s.ii 256 = true
  lo : decide (0 < s.ii) = f.loop
  dep : btw 1 s.dep 4096 = true
  S : ∀ x ∈ s.S, btw 0 x 4096 = true
  P : ∀ x ∈ s.P, btw 0 x 4096 = true
  U : ∀ j, j < s.U.length → unB f.R (ndAt f.N j) (s.U.getD j 0)
theorem int_get {l : List Int} {j : Nat} (h : j < l.length) : (l.map ivs)[j]? = some (ivs (l.getD j 0)) := by
  simp [List.getD, h]
theorem valid_nd {f : Fl} (h : validP f) {j : Nat} (hj : j < f.N.length) : (ndAt f.N j).rs < f.R.length := by
  have h1 : ndAt f.N j = f.N[j] := by simp [ndAt, hj]
  rw [h1]
  rcases h.2.2.2.1 _ (List.getElem_mem hj) with ⟨h, _⟩ | ⟨h, _⟩
  · omega
  · rw [btw_iff] at h; omega
theorem valid_ct {f : Fl} (h : validP f) : ∀ r ∈ f.R, 1 ≤ r.ct ∧ r.ct ≤ 1024 := fun r hr => btw_iff.mp (h.2.2.1 r hr).2
def O10 (ins par : Int) (loop : Bool) (va vr vn : V) (ii dep : Int) (vs vp vu : V) (o : Int) (d : Bool) : St := ⟨[.undef, .undef, .ptr 0 1 0 0, .ptr 1 1 0 0, .undef, .undef, .undef, .undef, .undef, .undef, .undef, .undef, .undef, .undef, .undef, .undef, .undef, .undef, .undef, .undef, .undef, .undef, .undef, .undef, .undef, .undef, .undef, .undef, .undef, .undef, .undef, .undef, .undef, .undef, .undef, .undef, .undef, .undef, .undef, .undef, .undef, .undef, .undef, .undef, .undef, .undef, .undef, .undef, .undef, .undef, .undef, .undef, .undef, .undef, .undef, .undef, .undef, .undef, .undef, .undef, .undef, .sl 1 2 2 0 2, .int .i64 2, .int .i64 o, .undef, .undef, .undef, .undef, .undef, .undef, .undef, .undef, .undef, .undef, .undef, .undef, .undef, .undef, .undef, .undef, .undef, .undef, .undef, .undef, .undef, .undef, .undef, .undef, .undef, .undef, .undef, .undef, .undef, .undef, .undef, .undef, .undef, .undef, .undef, .undef, .undef, .undef, .undef, .undef, .undef, .undef, .undef, .undef, .undef, .undef, .undef, .undef, .undef, .undef, .undef], [bxF ins par loop va vr vn, bxS ii dep vs vp vu, ⟨1, [[vs], [vp]], 0, false, [[vs], [vp]].all (fun x => x.all V.flat)⟩], d⟩
theorem d16K (K : Nat) (f : Fl) (hf : f.Ok) (hA : f.A.length ≤ 100000000) (hR : f.R.length ≤ 100000000) (hN : f.N.length ≤ 100000000) (hK : f.A.length + f.R.length + f.N.length + 10020 ≤ K) : RB (validP f) (callF tbl pu K 16 [f.v] []) := by
  have d := d16 (K - f.A.length - f.R.length - f.N.length - 10020) f hf hA hR hN
  rwa [show K - f.A.length - f.R.length - f.N.length - 10020 + f.A.length + f.R.length + f.N.length + 10020 = K by omega] at d
section
variable (k : Nat) (ins par : Int) (loop : Bool) (va vr vn : V) (ii dep : Int) (vs vp vu : V) (ta : va.tree = true) (tr : vr.tree = true) (tn : vn.tree = true) (ts : vs.tree = true) (tp : vp.tree = true) (tu : vu.tree = true) (L : List Int)
include ta tr tn ts tp tu
theorem o100 (oS : Sl 1 (L.map ivs) vs) (hL : L.length ≤ 10000) (hK : 10001 ≤ k) (d : Bool) : ((∀ j, j < L.length → btw 0 (L.getD j 0) 4096 = true) ∧ kNext (tidy [2, 3, 61, 62, 63] 0) (execC (callF tbl pu (k + 1)) pu 0 (k + 1) c10_b2 (O10 ins par loop va vr vn ii dep vs vp vu 0 d)) = some (O10 ins par loop va vr vn ii dep vs vp vu (0 + 1) d)) ∨
    ((¬ ∀ j, j < L.length → btw 0 (L.getD j 0) 4096 = true) ∧ retF 4 (execC (callF tbl pu (k + 1)) pu 0 (k + 1) c10_b2 (O10 ins par loop va vr vn ii dep vs vp vu 0 d))) := by
  have ka := V.cell_of_tree ta
  have kr := V.cell_of_tree tr
  have kn := V.cell_of_tree tn
  have ks := V.cell_of_tree ts
  have kp := V.cell_of_tree tp
  have ku := V.cell_of_tree tu
  have lS := oS.len
  have sS := oS.lst
  rw [List.length_map] at lS
  have L1 := loop_all (pre := tidy [2, 3, 61, 62, 63, 67, 68, 69] 0) (f := execC (callF tbl pu (k + 1)) pu 0 (k + 1) c10_b1) (fun j => T10b ins par loop va vr vn ii dep vs vp vu 0 vs L.length j d) (fun j => btw 0 (L.getD j 0) 4096 = true) L.length 4
    (.exit 2, ⟨(T10b ins par loop va vr vn ii dep vs vp vu 0 vs L.length L.length d).fr.set 70 (.bool false), [bxF ins par loop va vr vn, bxS ii dep vs vp vu, ⟨1, [[vs], [vp]], 0, false, [[vs], [vp]].all (fun x => x.all V.flat)⟩], d⟩)
    (by
      intro j hj hok
      have hj' : j < (L.map ivs).length := by simpa using hj
      have e := oS.tsl hj'
      have := s10b k ins par loop va vr vn ii dep vs vp vu 0 (L.map ivs) L.length j _ d (by simp) (int_get hj) hj (by omega) ta tr tn ts tp tu hok
      rw [← e] at this
      exact this)
    (by
      intro j hj hok
      have hj' : j < (L.map ivs).length := by simpa using hj
      have e := oS.tsl hj'
      have := r10b k ins par loop va vr vn ii dep vs vp vu 0 (L.map ivs) L.length j _ d (by simp) (int_get hj) hj (by omega) ta tr tn ts tp tu hok
      rw [← e] at this
      exact this)
    (by simp [T10b, c10_b1]) (by simp)
  rcases L1 with ⟨g1, h1⟩ | ⟨g1, s', e1, h1⟩
  · refine .inl ⟨g1, ?_⟩
    unfold O10
    simp [c10_b2, execC_loop, -kIter_succ, -tidy, kLen_lst, sS, lS]
    rw [h1 _ _ (by omega) (by simp [T10b, bxF, bxS, ka, kr, kn, ks, kp, ku, ta, tr, tn, ts, tp, tu])]
    simp [T10b, bxF, bxS, ka, kr, kn, ks, kp, ku, ta, tr, tn, ts, tp, tu]
  · refine .inr ⟨g1, ?_⟩
    unfold O10
    simp [c10_b2, execC_loop, -kIter_succ, -tidy, kLen_lst, sS, lS]
    rw [h1 _ _ (by omega) (by simp [T10b, bxF, bxS, ka, kr, kn, ks, kp, ku, ta, tr, tn, ts, tp, tu])]
    simp only [kBlk_ret, kSeq_ret]
    exact e1
theorem o101 (oS : Sl 1 (L.map ivs) vp) (hL : L.length ≤ 10000) (hK : 10001 ≤ k) (d : Bool) : ((∀ j, j < L.length → btw 0 (L.getD j 0) 4096 = true) ∧ kNext (tidy [2, 3, 61, 62, 63] 0) (execC (callF tbl pu (k + 1)) pu 0 (k + 1) c10_b2 (O10 ins par loop va vr vn ii dep vs vp vu 1 d)) = some (O10 ins par loop va vr vn ii dep vs vp vu (1 + 1) d)) ∨
    ((¬ ∀ j, j < L.length → btw 0 (L.getD j 0) 4096 = true) ∧ retF 4 (execC (callF tbl pu (k + 1)) pu 0 (k + 1) c10_b2 (O10 ins par loop va vr vn ii dep vs vp vu 1 d))) := by
  have ka := V.cell_of_tree ta
  have kr := V.cell_of_tree tr
  have kn := V.cell_of_tree tn
  have ks := V.cell_of_tree ts
  have kp := V.cell_of_tree tp
  have ku := V.cell_of_tree tu
  have lS := oS.len
  have sS := oS.lst
  rw [List.length_map] at lS
  have L1 := loop_all (pre := tidy [2, 3, 61, 62, 63, 67, 68, 69] 0) (f := execC (callF tbl pu (k + 1)) pu 0 (k + 1) c10_b1) (fun j => T10b ins par loop va vr vn ii dep vs vp vu 1 vp L.length j d) (fun j => btw 0 (L.getD j 0) 4096 = true) L.length 4
    (.exit 2, ⟨(T10b ins par loop va vr vn ii dep vs vp vu 1 vp L.length L.length d).fr.set 70 (.bool false), [bxF ins par loop va vr vn, bxS ii dep vs vp vu, ⟨1, [[vs], [vp]], 0, false, [[vs], [vp]].all (fun x => x.all V.flat)⟩], d⟩)
    (by
      intro j hj hok
      have hj' : j < (L.map ivs).length := by simpa using hj
      have e := oS.tsl hj'
      have := s10b k ins par loop va vr vn ii dep vs vp vu 1 (L.map ivs) L.length j _ d (by simp) (int_get hj) hj (by omega) ta tr tn ts tp tu hok
      rw [← e] at this
      exact this)
    (by
      intro j hj hok
      have hj' : j < (L.map ivs).length := by simpa using hj
      have e := oS.tsl hj'
      have := r10b k ins par loop va vr vn ii dep vs vp vu 1 (L.map ivs) L.length j _ d (by simp) (int_get hj) hj (by omega) ta tr tn ts tp tu hok
      rw [← e] at this
      exact this)
    (by simp [T10b, c10_b1]) (by simp)
  rcases L1 with ⟨g1, h1⟩ | ⟨g1, s', e1, h1⟩
  · refine .inl ⟨g1, ?_⟩
    unfold O10
    simp [c10_b2, execC_loop, -kIter_succ, -tidy, kLen_lst, sS, lS]
    rw [h1 _ _ (by omega) (by simp [T10b, bxF, bxS, ka, kr, kn, ks, kp, ku, ta, tr, tn, ts, tp, tu])]
    simp [T10b, bxF, bxS, ka, kr, kn, ks, kp, ku, ta, tr, tn, ts, tp, tu]
  · refine .inr ⟨g1, ?_⟩
    unfold O10
    simp [c10_b2, execC_loop, -kIter_succ, -tidy, kLen_lst, sS, lS]
    rw [h1 _ _ (by omega) (by simp [T10b, bxF, bxS, ka, kr, kn, ks, kp, ku, ta, tr, tn, ts, tp, tu])]
    simp only [kBlk_ret, kSeq_ret]
    exact e1
end
theorem d10 (K : Nat) (f : Fl) (hf : f.Ok) (s : Sc) (hs : s.Ok) (hA : f.A.length ≤ 100000000) (hR : f.R.length ≤ 100000000) (hN : f.N.length ≤ 100000000) (hS : s.S.length ≤ 10000) (hP : s.P.length ≤ 10000) (hU : s.U.length ≤ 10000)
    (hK : f.A.length + f.R.length + f.N.length + 10050 ≤ K) : RB (validP f ∧ fitsP f s) (callF tbl pu (K + 2) 10 [f.v, s.v] []) := by
  obtain ⟨b, d0, h16, hb16⟩ := d16K (K + 1) f hf hA hR hN (by omega)
  obtain ⟨ins, par, loop, va, vr, vn, A, R, N⟩ := f
  obtain ⟨ii, dep, vs, vp, vu, S, P, U⟩ := s
  obtain ⟨oa, or, on⟩ := hf
  obtain ⟨os, op, ou⟩ := hs
  simp only at oa or on os op ou hA hR hN hS hP hU
  have ta := oa.tree
  have tr := or.tree
  have tn := on.tree
  have ts := os.tree
  have tp := op.tree
  have tu := ou.tree
  have ka := V.cell_of_tree ta
  have kr := V.cell_of_tree tr
  have kn := V.cell_of_tree tn
  have ks := V.cell_of_tree ts
  have kp := V.cell_of_tree tp
  have ku := V.cell_of_tree tu
  have ls := os.len
  have lp := op.len
  have lu := ou.len
  have ss := os.lst
  have sp := op.lst
  have su := ou.lst
  rw [List.length_map] at ls lp lu
  have h17 := fun n lo hi => d17 K n lo hi
  rw [callF_eq tbl10, Ytllnlcifddhapaa.c10]
  unfold Fl.v Sc.v at *
  cases b with
  | false =>
    simp [ka, kr, kn, ks, kp, ku, ta, tr, tn, ts, tp, tu, callV_pu, h16]
    exact RB_false fun h => by have := hb16.mpr h.1; cases this
  | true =>
  have hv := hb16.mp rfl
  by_cases n1 : (S.length : Int) = ins
  rotate_left
  · simp [ka, kr, kn, ks, kp, ku, ta, tr, tn, ts, tp, tu, callV_pu, h16, kLen_lst, ss, ls, n1]
    exact RB_false fun h => n1 h.2.nS
  by_cases n2 : (U.length : Int) = ins
  rotate_left
  · simp [ka, kr, kn, ks, kp, ku, ta, tr, tn, ts, tp, tu, callV_pu, h16, kLen_lst, ss, ls, su, lu, n1, n2]
    exact RB_false fun h => n2 h.2.nU
  by_cases n3 : (P.length : Int) = par
  rotate_left
  · simp [ka, kr, kn, ks, kp, ku, ta, tr, tn, ts, tp, tu, callV_pu, h16, kLen_lst, ss, ls, su, lu, sp, lp, n1, n2, n3]
    exact RB_false fun h => n3 h.2.nP
  cases c1 : btw 0 ii 256
  · simp [ka, kr, kn, ks, kp, ku, ta, tr, tn, ts, tp, tu, callV_pu, h16, kLen_lst, ss, ls, su, lu, sp, lp, n1, n2, n3, h17, c1]
    exact RB_false fun h => by have := h.2.ii; simp only at this; rw [c1] at this; cases this
  by_cases c2 : decide (0 < ii) = loop
  rotate_left
  · have c2' : (decide (0 < ii) == loop) = false := by simpa using c2
    simp [ka, kr, kn, ks, kp, ku, ta, tr, tn, ts, tp, tu, callV_pu, h16, kLen_lst, ss, ls, su, lu, sp, lp, n1, n2, n3, h17, c1, c2']
    exact RB_false fun h => c2 h.2.lo
  have c2' : (decide (0 < ii) == loop) = true := by simpa using c2
  cases c3 : btw 1 dep 4096
  · simp [ka, kr, kn, ks, kp, ku, ta, tr, tn, ts, tp, tu, callV_pu, h16, kLen_lst, ss, ls, su, lu, sp, lp, n1, n2, n3, h17, c1, c2', c3]
    exact RB_false fun h => by have := h.2.dep; simp only at this; rw [c3] at this; cases this
  simp [execC_loop, -kIter_succ, -tidy, ka, kr, kn, ks, kp, ku, ta, tr, tn, ts, tp, tu, callV_pu, h16, kLen_lst, ss, ls, su, lu, sp, lp, n1, n2, n3, h17, c1, c2', c3]
  have two : ∀ o, o < 2 → o = 0 ∨ o = 1 := by omega
  have L1 := loop_all (pre := tidy [2, 3, 61, 62, 63] 0) (f := execC (callF tbl pu (K + 1)) pu 0 (K + 1) c10_b2) (fun o => O10 ins par loop va vr vn ii dep vs vp vu o false) (fun o => ∀ j, j < (if o = 0 then S else P).length → btw 0 ((if o = 0 then S else P).getD j 0) 4096 = true) 2 4
    (.exit 0, ⟨(O10 ins par loop va vr vn ii dep vs vp vu 2 false).fr.set 64 (.bool false), [bxF ins par loop va vr vn, bxS ii dep vs vp vu, ⟨1, [[vs], [vp]], 0, false, [[vs], [vp]].all (fun x => x.all V.flat)⟩], false⟩)
    (by
      intro o ho hok
      rcases two o ho with rfl | rfl
      · simp only [if_true] at hok
        rcases o100 K ins par loop va vr vn ii dep vs vp vu ta tr tn ts tp tu S os hS (by omega) false with ⟨_, h⟩ | ⟨h, _⟩
        · exact h
        · exact absurd hok h
      · rw [if_neg (by omega)] at hok
        rcases o101 K ins par loop va vr vn ii dep vs vp vu ta tr tn ts tp tu P op hP (by omega) false with ⟨_, h⟩ | ⟨h, _⟩
        · exact h
        · exact absurd hok h)
    (by
      intro o ho hok
      rcases two o ho with rfl | rfl
      · simp only [if_true] at hok
        rcases o100 K ins par loop va vr vn ii dep vs vp vu ta tr tn ts tp tu S os hS (by omega) false with ⟨h, _⟩ | ⟨_, h⟩
        · exact absurd h hok
        · exact h
      · rw [if_neg (by omega)] at hok
        rcases o101 K ins par loop va vr vn ii dep vs vp vu ta tr tn ts tp tu P op hP (by omega) false with ⟨h, _⟩ | ⟨_, h⟩
        · exact absurd h hok
        · exact h)
    (by simp [O10, c10_b2]) (by simp)
  have all_get : ∀ l : List Int, (∀ j, j < l.length → btw 0 (l.getD j 0) 4096 = true) ↔ ∀ x ∈ l, btw 0 x 4096 = true := by
    intro l
    rw [← all_idx (p := fun x => btw 0 x 4096 = true)]
    constructor
    · intro h j hj; have := h j hj; simpa [List.getD, hj] using this
    · intro h j hj; have := h j hj; simpa [List.getD, hj] using this
  rcases L1 with ⟨g1, h1⟩ | ⟨g1, s', e1, h1⟩
  rotate_left
  · rw [h1 _ _ (by omega) (by simp [O10, bxF, bxS, ka, kr, kn, ks, kp, ku, ta, tr, tn, ts, tp, tu])]
    simp only [kBlk_ret, kSeq_ret]
    refine RB_ret rfl e1 fun h => g1 fun o ho => ?_
    rcases two o ho with rfl | rfl
    · exact (all_get S).mpr h.2.S
    · exact (all_get P).mpr h.2.P
  rw [h1 _ _ (by omega) (by simp [O10, bxF, bxS, ka, kr, kn, ks, kp, ku, ta, tr, tn, ts, tp, tu])]
  have gS := (all_get S).mp (g1 0 (by omega))
  have gP := (all_get P).mp (g1 1 (by omega))
  simp [O10, bxF, bxS, execC_loop, -kIter_succ, -tidy, ka, kr, kn, ks, kp, ku, ta, tr, tn, ts, tp, tu, kLen_lst, su, lu]
  have nNU : N.length = U.length := by have := hv.1.2.2; simp only at this; omega
  have L2 := loop_all (pre := tidy [2, 79, 80, 81] 0) (f := execC (callF tbl pu (K + 1)) pu 0 (K + 1) c10_b0) (fun j => T10a ins par loop va vr vn ii dep vs vp vu U.length j false) (fun j => unB R (ndAt N j) (U.getD j 0)) U.length 4
    (.exit 4, ⟨(T10a ins par loop va vr vn ii dep vs vp vu U.length U.length false).fr.set 82 (.bool false), [bxF ins par loop va vr vn], false⟩)
    (by
      intro j hj hok
      have e1 := ou.tsl (i := j) (by simpa using hj)
      have e2 := on.tsl (i := j) (by simp; omega)
      have := s10a K ins par loop va vr ii dep vs vp (U.map ivs) (N.map Nd.vs) R U.length j (ndAt N j) (U.getD j 0) false (by simp) (int_get hj) hj (by omega) ta or (ndAt_get (by omega)) (valid_nd hv (by simp only; omega)) (valid_ct hv) hok
      rw [← e1, ← e2] at this
      exact this)
    (by
      intro j hj hok
      have e1 := ou.tsl (i := j) (by simpa using hj)
      have e2 := on.tsl (i := j) (by simp; omega)
      have := r10a K ins par loop va vr ii dep vs vp (U.map ivs) (N.map Nd.vs) R U.length j (ndAt N j) (U.getD j 0) false (by simp) (int_get hj) hj (by omega) ta or (ndAt_get (by omega)) (valid_nd hv (by simp only; omega)) (valid_ct hv) hok
      rw [← e1, ← e2] at this
      exact this)
    (by simp [T10a, c10_b0]) (by simp)
  rcases L2 with ⟨g2, h2⟩ | ⟨g2, s', e1, h2⟩
  rotate_left
  · rw [h2 _ _ (by omega) (by simp [T10a, bxF, bxS, ka, kr, kn, ks, kp, ku, ta, tr, tn, ts, tp, tu])]
    simp only [kBlk_ret, kSeq_ret]
    exact RB_ret rfl e1 fun h => g2 h.2.U
  rw [h2 _ _ (by omega) (by simp [T10a, bxF, bxS, ka, kr, kn, ks, kp, ku, ta, tr, tn, ts, tp, tu])]
  simp [T10a]
  exact RB_true ⟨hv, n1, n2, n3, c1, c2, c3, gS, gP, g2⟩
end Go.AM.Ytllnlcifddhapaa
