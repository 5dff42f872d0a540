/- The law ProfileUsage over the executor: no conditions beyond the arguments' types. -/
import Derived.Test.YtllnlcifddhapaaSayProfileUsage
import Derived.Test.YtllnlcifddhapaaUsW
import Derived.Test.YtllnlcifddhapaaUsY
set_option linter.unusedVariables false
set_option linter.unusedSimpArgs false
namespace Go.AM.Ytllnlcifddhapaa
open Go Go.AM
set_option maxRecDepth 100000
set_option maxHeartbeats 0
def T3 (ins par : Int) (loop : Bool) (va vr vn : V) (ii dep : Int) (vs vp vu : V) (es : List (List V)) (m j : Nat) : St := ⟨[.undef, .undef, .ptr 0 1 0 0, .ptr 1 1 0 0, .undef, .sl 2 2 m 0 m, .sl 2 3 m 0 m, .undef, .undef, .undef, .undef, .undef, .undef, .undef, .undef, .undef, .undef, .undef, .undef, .undef, .undef, .undef, .undef, .undef, .undef, .undef, .undef, .undef, .undef, .undef, .undef, .undef, .undef, .undef, .undef, .undef, .undef, .undef, .undef, .undef, .undef, .undef, .undef, .undef, .undef, .undef, .undef, .undef, .undef, .undef, .undef, .undef, .undef, .undef, .undef, .undef, .undef, .undef, .undef, .int .i64 m, .int .i64 j, .undef, .undef, .undef, .undef, .undef, .undef, .undef, .undef, .undef, .undef, .undef, .undef, .undef, .undef, .undef, .undef, .undef, .undef, .undef, .undef, .undef, .undef, .undef, .undef, .undef, .undef, .undef, .undef, .undef, .undef, .undef, .undef, .undef, .undef, .undef, .undef, .undef, .undef, .undef, .undef, .undef, .undef, .undef, .undef, .undef], [bxF ins par loop va vr vn, bxS ii dep vs vp vu, ⟨2, es, 0, false, true⟩, ⟨2, es, 0, false, true⟩], false⟩
theorem s3 (k : Nat) (ins par : Int) (loop : Bool) (va vr vn : V) (ii dep : Int) (vs vp vu : V) (ta : va.tree = true) (tr : vr.tree = true) (tn : vn.tree = true) (ts : vs.tree = true) (tp : vp.tree = true) (tu : vu.tree = true) (es : List (List V)) (m j : Nat) (a b : Int) (hm : es.length = m) (hx : es[j]? = some (row a b)) (hj : j < m) (hb : m ≤ 100000) (bl dl : Bool) (h9 : callF tbl pu k 9 [.agg [.int .i64 ins, .int .i64 par, .bool loop, va, vr, vn], .agg [.int .i64 ii, .int .i64 dep, vs, vp, vu]] [] = some (.bool bl, [], dl)) (hle : bl = true → a ≤ b) :
    kNext (tidy [2, 3, 5, 6, 59, 60] 0) (execC (callF tbl pu k) pu 0 k c3_b0 (T3 ins par loop va vr vn ii dep vs vp vu es m j)) = some (T3 ins par loop va vr vn ii dep vs vp vu es m (j + 1)) := by
  have wj : IntKind.i64.wrap ((j : Int) + 1) = (j : Int) + 1 := wrap64 (by omega) (by omega)
  have ka := V.cell_of_tree ta
  have kr := V.cell_of_tree tr
  have kn := V.cell_of_tree tn
  have ks := V.cell_of_tree ts
  have kp := V.cell_of_tree tp
  have ku := V.cell_of_tree tu
  subst hm
  rw [List.getElem?_eq_getElem hj, Option.some_inj] at hx
  unfold row at hx
  cases bl with
  | false => simp [T3, bxF, bxS, c3_b0, c3_r0, c3_a0, hj, hx, wj, ka, kr, kn, ks, kp, ku, ta, tr, tn, ts, tp, tu, callV_pu, h9]
  | true =>
    have hle' : ¬ b < a := by have := hle rfl; omega
    simp [T3, bxF, bxS, c3_b0, c3_r0, c3_a0, hj, hx, wj, ka, kr, kn, ks, kp, ku, ta, tr, tn, ts, tp, tu, callV_pu, h9, hle']
theorem p4 (k : Nat) : callF tbl pu (k + 40) 4 [] [] = some (.bool true, [], false) := awakeK k
/-- a result that is true -/
def RTT (x : Option (V × Heap × Bool)) : Prop := ∃ d, x = some (.bool true, [], d)
theorem RTT_mk {d : Bool} : RTT (some (.bool true, [], d)) := ⟨d, rfl⟩
theorem law3 (f : Fl) (hf : f.Ok) (s : Sc) (hs : s.Ok) (hA : f.A.length ≤ 100000000000000) (hN : f.N.length ≤ 100000000000000) : ∃ k, RTT (callF tbl pu k 3 [f.v, s.v] []) := by
  obtain ⟨K, hK⟩ : ∃ K, K = 70000 + f.A.length + f.N.length := ⟨_, rfl⟩
  refine ⟨K + 41, ?_⟩
  have aw := p4 K
  have h5 := d5L (K + 30 - f.A.length - f.N.length) f hf 12 6 hA hN
  rw [show K + 30 - f.A.length - f.N.length + f.A.length + f.N.length + 10 = K + 40 by omega] at h5
  obtain ⟨b5, d5', h5, hb5⟩ := h5
  have h6 := fun (h1 : f.A.length ≤ 10000) (h2 : f.R.length ≤ 100) (h3 : f.N.length ≤ 10000) (h4 : s.S.length ≤ 10000) (h5 : s.P.length ≤ 10000) (h6 : s.U.length ≤ 10000) => d6 (K + 37) f hf s hs h1 h2 h3 h4 h5 h6 (by omega)
  have h7 := fun (h1 : f.A.length ≤ 10000) (h2 : f.R.length ≤ 10000) (h3 : f.N.length ≤ 10000) (h4 : s.S.length ≤ 10000) (h5 : s.P.length ≤ 10000) (h6 : s.U.length ≤ 10000) => d7 (K + 38) f hf s hs h1 h2 h3 h4 h5 h6 (by omega)
  have h8 := fun (hv : validP f) (hfit : fitsP f s) (h2 : f.R.length ≤ 100) (h3 : f.N.length ≤ 10000) => d8 (K + 38) f hf s hs h2 h3 (valid_bu hv) (valid_ct hv) (fits_len hfit) (by omega)
  have h9 := fun (hv : validP f) (hfit : fitsP f s) (h1 : f.A.length ≤ 10000) (h3 : f.N.length ≤ 5000) (h4 : s.S.length ≤ 10000) (h5 : s.P.length ≤ 10000) (h6 : s.U.length ≤ 10000) => d9 (K + 36) f hf s hs hv hfit h1 h3 h4 h5 h6 (by omega)
  have hub := fun (hv : validP f) (hfit : fitsP f s) (hl : ∀ a ∈ f.A, okA f s a) (hc : ∀ i q, i ≤ q → q < f.N.length → NoClF f s i q) (r : Nat) (hr : r < f.R.length) => use_bound hv hfit hl hc r hr
  have hsm : smallP f 12 6 → f.A.length ≤ 90 ∧ f.R.length ≤ 6 := fun h => ⟨h.2.2.2.2.1, h.2.2.2.2.2⟩
  have hguse : useG f s = fun r : Nat => row (sumN f.N r f.N.length) ((rsAt f.R r).ct * lenI f.loop s.ii s.dep) := rfl
  generalize hG : useG f s = g at *
  generalize hV : validP f = VP at *
  generalize hF : fitsP f s = FP at *
  generalize hLt : (∀ a ∈ f.A, okA f s a) = LT at *
  generalize hCl : (∀ i q, i ≤ q → q < f.N.length → NoClF f s i q) = CL at *
  generalize hSm : smallP f 12 6 = SM at *
  clear hG hV hF hLt hCl hSm
  obtain ⟨ins, par, loop, va, vr, vn, A, R, N⟩ := f
  obtain ⟨ii, dep, vs, vp, vu, S, P, U⟩ := s
  obtain ⟨oa, or, on⟩ := hf
  obtain ⟨os, op, ou⟩ := hs
  simp only at oa or on os op ou
  have ta := oa.tree
  have tr := or.tree
  have tn := on.tree
  have ts := os.tree
  have tp := op.tree
  have tu := ou.tree
  have ka := V.cell_of_tree ta
  have kr := V.cell_of_tree tr
  have kn := V.cell_of_tree tn
  have ks := V.cell_of_tree ts
  have kp := V.cell_of_tree tp
  have ku := V.cell_of_tree tu
  simp only at h6 h7 h8 h9 hub hsm hguse hA hN hK
  have ls := os.len
  have lp := op.len
  have lu := ou.len
  have ln := on.len
  have ss := os.lst
  have sp := op.lst
  have su := ou.lst
  have sn := on.lst
  rw [List.length_map] at ls lp lu ln
  unfold Fl.v Sc.v at *
  simp only at h5 h6 h7 h8 h9
  rw [callF_eq tbl3, Ytllnlcifddhapaa.c3]
  cases b5 with
  | false =>
    simp [ka, kr, kn, ks, kp, ku, ta, tr, tn, ts, tp, tu, callV_pu, aw, h5]
    exact RTT_mk
  | true =>
  obtain ⟨lA, lR⟩ := hsm (hb5.mp rfl)
  by_cases n1 : N.length ≤ 20
  rotate_left
  · have n1' : (20 : Int) < N.length := by omega
    simp [ka, kr, kn, ks, kp, ku, ta, tr, tn, ts, tp, tu, callV_pu, aw, h5, kLen_lst, sn, ln, n1']
    exact RTT_mk
  have n1' : ¬ (20 : Int) < N.length := by omega
  by_cases n2 : S.length ≤ 20
  rotate_left
  · have n2' : (20 : Int) < S.length := by omega
    simp [ka, kr, kn, ks, kp, ku, ta, tr, tn, ts, tp, tu, callV_pu, aw, h5, kLen_lst, sn, ln, n1', ss, ls, n2']
    exact RTT_mk
  have n2' : ¬ (20 : Int) < S.length := by omega
  by_cases n3 : U.length ≤ 20
  rotate_left
  · have n3' : (20 : Int) < U.length := by omega
    simp [ka, kr, kn, ks, kp, ku, ta, tr, tn, ts, tp, tu, callV_pu, aw, h5, kLen_lst, sn, ln, n1', ss, ls, n2', su, lu, n3']
    exact RTT_mk
  have n3' : ¬ (20 : Int) < U.length := by omega
  by_cases n4 : P.length ≤ 20
  rotate_left
  · have n4' : (20 : Int) < P.length := by omega
    simp [ka, kr, kn, ks, kp, ku, ta, tr, tn, ts, tp, tu, callV_pu, aw, h5, kLen_lst, sn, ln, n1', ss, ls, n2', su, lu, n3', sp, lp, n4']
    exact RTT_mk
  have n4' : ¬ (20 : Int) < P.length := by omega
  obtain ⟨h6n, h6y⟩ := h6 (by omega) (by omega) (by omega) (by omega) (by omega) (by omega)
  obtain ⟨b7, d7', h7, hb7⟩ := h7 (by omega) (by omega) (by omega) (by omega) (by omega) (by omega)
  cases b7 with
  | false =>
    obtain ⟨d6', h6⟩ := h6n fun h => by have := hb7.mpr h; cases this
    simp [ka, kr, kn, ks, kp, ku, ta, tr, tn, ts, tp, tu, callV_pu, aw, h5, kLen_lst, sn, ln, n1', ss, ls, n2', su, lu, n3', sp, lp, n4', h6, h7]
    exact RTT_mk
  | true =>
    obtain ⟨hv, hfit⟩ := hb7.mp rfl
    obtain ⟨d6', h6⟩ := h6y ⟨hv, hfit⟩
    obtain ⟨d8', h8⟩ := h8 hv hfit (by omega) (by omega)
    obtain ⟨b9, d9', h9, hb9⟩ := h9 hv hfit (by omega) (by omega) (by omega) (by omega) (by omega)
    rw [← hguse] at h8
    by_cases hm0 : R.length = 0
    · simp only [oVr, oHr, hm0, if_true] at h6 h8
      simp [execC_loop, c3_b0, ka, kr, kn, ks, kp, ku, ta, tr, tn, ts, tp, tu, callV_pu, aw, h5, kLen_lst, sn, ln, n1', ss, ls, n2', su, lu, n3', sp, lp, n4', h6, h7, h8]
      exact RTT_mk
    · simp only [oVr, oHr, if_neg hm0] at h6 h8
      generalize hes : rows g R.length = es at *
      have hel : es.length = R.length := by rw [← hes, rows_len]
      have heg : ∀ j, j < R.length → es[j]? = some (row (sumN N j N.length) ((rsAt R j).ct * lenI loop ii dep)) := by
        intro j hj
        rw [← hes, rows_get g _ j hj, hguse]
      have it : ∀ s, tidy [2, 3, 5, 6, 59, 60] 0 s = some (T3 ins par loop va vr vn ii dep vs vp vu es R.length 0) → iter (tidy [2, 3, 5, 6, 59, 60] 0) (execC (callF tbl pu (K + 40)) pu 0 (K + 40) c3_b0) (K + 40) s =
          some (.exit 0, ⟨(T3 ins par loop va vr vn ii dep vs vp vu es R.length R.length).fr.set 61 (.bool false), [bxF ins par loop va vr vn, bxS ii dep vs vp vu, ⟨2, es, 0, false, true⟩, ⟨2, es, 0, false, true⟩], false⟩) := by
        intro s hs
        refine iter_to (fun j => T3 ins par loop va vr vn ii dep vs vp vu es R.length j) R.length hs (by omega) (fun j hj => ?_) (by simp [T3, c3_b0]) (by simp)
        exact s3 (K + 40) ins par loop va vr vn ii dep vs vp vu ta tr tn ts tp tu es R.length j _ _ hel (heg j hj) hj (by omega) b9 d9' h9 fun h => hub hv hfit (hb9 h).1 (hb9 h).2 j hj
      simp [execC_loop, -kIter_succ, -tidy, ka, kr, kn, ks, kp, ku, ta, tr, tn, ts, tp, tu, callV_pu, aw, h5, kLen_lst, sn, ln, n1', ss, ls, n2', su, lu, n3', sp, lp, n4', h6, h7, h8]
      rw [it _ (by simp [T3, bxF, bxS, ka, kr, kn, ks, kp, ku, ta, tr, tn, ts, tp, tu])]
      simp [T3]
      exact RTT_mk
theorem arcs_of : ∀ {es : List (List V)}, (∀ x ∈ es, S41 x) → ∃ l : List Arc, es = l.map Arc.vs
  | [], _ => ⟨[], rfl⟩
  | e :: es, h => by
    obtain ⟨l, rfl⟩ := arcs_of (es := es) fun x hx => h x (by simp [hx])
    obtain ⟨a, b, c, d, rfl, _⟩ := flat41 (h e (by simp))
    exact ⟨⟨a, b, c, d⟩ :: l, rfl⟩
theorem res_of : ∀ {es : List (List V)}, (∀ x ∈ es, S43 x) → ∃ l : List Rs, es = l.map Rs.vs
  | [], _ => ⟨[], rfl⟩
  | e :: es, h => by
    obtain ⟨l, rfl⟩ := res_of (es := es) fun x hx => h x (by simp [hx])
    obtain ⟨a, b, c, d, rfl, _⟩ := flat43 (h e (by simp))
    exact ⟨⟨a, b, c, d⟩ :: l, rfl⟩
theorem nds_of : ∀ {es : List (List V)}, (∀ x ∈ es, S45 x) → ∃ l : List Nd, es = l.map Nd.vs
  | [], _ => ⟨[], rfl⟩
  | e :: es, h => by
    obtain ⟨l, rfl⟩ := nds_of (es := es) fun x hx => h x (by simp [hx])
    obtain ⟨a, b, rfl, _⟩ := flat45 (h e (by simp))
    exact ⟨⟨a, b⟩ :: l, rfl⟩
theorem ints_of : ∀ {es : List (List V)}, (∀ x ∈ es, S3 x) → ∃ l : List Int, es = l.map ivs
  | [], _ => ⟨[], rfl⟩
  | e :: es, h => by
    obtain ⟨l, rfl⟩ := ints_of (es := es) fun x hx => h x (by simp [hx])
    obtain ⟨a, rfl, _⟩ := h e (by simp)
    exact ⟨a :: l, rfl⟩
theorem sl22 {v : V} (h : S22 [v]) : ∃ l : List Arc, Sl 4 (l.map Arc.vs) v ∧ l.length * 32 ≤ 140737488351232 := by
  rcases h with h | ⟨es, h, h1, _, h2⟩
  · obtain rfl : v = .nils := by simpa using h
    exact ⟨[], .inl ⟨rfl, rfl⟩, by simp⟩
  · obtain rfl : v = .tsl 4 es := by simpa using h
    obtain ⟨l, rfl⟩ := arcs_of h2
    exact ⟨l, .inr rfl, by simpa using h1⟩
theorem sl23 {v : V} (h : S23 [v]) : ∃ l : List Rs, Sl 4 (l.map Rs.vs) v := by
  rcases h with h | ⟨es, h, _, _, h2⟩
  · obtain rfl : v = .nils := by simpa using h
    exact ⟨[], .inl ⟨rfl, rfl⟩⟩
  · obtain rfl : v = .tsl 4 es := by simpa using h
    obtain ⟨l, rfl⟩ := res_of h2
    exact ⟨l, .inr rfl⟩
theorem sl24 {v : V} (h : S24 [v]) : ∃ l : List Nd, Sl 2 (l.map Nd.vs) v ∧ l.length * 16 ≤ 140737488351232 := by
  rcases h with h | ⟨es, h, h1, _, h2⟩
  · obtain rfl : v = .nils := by simpa using h
    exact ⟨[], .inl ⟨rfl, rfl⟩, by simp⟩
  · obtain rfl : v = .tsl 2 es := by simpa using h
    obtain ⟨l, rfl⟩ := nds_of h2
    exact ⟨l, .inr rfl, by simpa using h1⟩
theorem sl27 {v : V} (h : S27 [v]) : ∃ l : List Int, Sl 1 (l.map ivs) v := by
  rcases h with h | ⟨es, h, _, _, h2⟩
  · obtain rfl : v = .nils := by simpa using h
    exact ⟨[], .inl ⟨rfl, rfl⟩⟩
  · obtain rfl : v = .tsl 1 es := by simpa using h
    obtain ⟨l, rfl⟩ := ints_of h2
    exact ⟨l, .inr rfl⟩
theorem PureProfileUsage : SayProfileUsage := by
  rintro x0 x1 ⟨vs0, rfl, h0⟩ ⟨vs1, rfl, h1⟩
  obtain ⟨ins, par, loop, va, vr, vn, rfl, _, _, ha, hr, hn⟩ := flat26 h0
  obtain ⟨ii, dep, vs, vp, vu, rfl, _, _, hs, hp, hu⟩ := flat29 h1
  obtain ⟨A, oa, la⟩ := sl22 ha
  obtain ⟨R, or⟩ := sl23 hr
  obtain ⟨N, on, ln⟩ := sl24 hn
  obtain ⟨S, os⟩ := sl27 hs
  obtain ⟨P, op⟩ := sl27 hp
  obtain ⟨U, ou⟩ := sl27 hu
  obtain ⟨k, d, hd⟩ := law3 ⟨ins, par, loop, va, vr, vn, A, R, N⟩ ⟨oa, or, on⟩ ⟨ii, dep, vs, vp, vu, S, P, U⟩ ⟨os, op, ou⟩ (by simp only; omega) (by simp only; omega)
  exact ⟨k, [], d, hd⟩
end Go.AM.Ytllnlcifddhapaa
