/- profile.Usage: what it returns. -/
import Derived.Test.YtllnlcifddhapaaUsN
set_option linter.unusedVariables false
set_option linter.unusedSimpArgs false
namespace Go.AM.Ytllnlcifddhapaa
open Go Go.AM
set_option maxRecDepth 100000
set_option maxHeartbeats 0
def T6z (vn : V) (m j : Nat) (d : Bool) : St := ⟨[.undef, .undef, .undef, .undef, .undef, .undef, .nils, .undef, .undef, .undef, .undef, .undef, .undef, .undef, .undef, .undef, .undef, .undef, .undef, .undef, .undef, .undef, .undef, .undef, .undef, .undef, .undef, .undef, .undef, .undef, .undef, .undef, .undef, .undef, .undef, .undef, .undef, .undef, vn, .int .i64 m, .int .i64 j, .undef, .undef, .undef, .undef, .undef, .undef, .undef, .undef, .undef, .undef, .undef, .undef, .undef, .undef, .undef, .undef, .undef, .undef, .undef], [], d⟩
theorem s6z (call : CallT) (k : Nat) (ns : List (List V)) (m j : Nat) (x : Nd) (d : Bool) (hm : ns.length = m) (hx : ns[j]? = some x.vs) (hj : j < m) (hb : m ≤ 100000) (h : x.rs < 0) :
    kNext (tidy [6, 38, 39, 40] 0) (execC call pu 0 k c6_b0 (T6z (.tsl 2 ns) m j d)) = some (T6z (.tsl 2 ns) m (j + 1) true) := by
  have wj : IntKind.i64.wrap ((j : Int) + 1) = (j : Int) + 1 := wrap64 (by omega) (by omega)
  have h' : ¬ 0 ≤ x.rs := by omega
  subst hm
  rw [List.getElem?_eq_getElem hj, Option.some_inj] at hx
  unfold Nd.vs at hx
  simp [T6z, c6_b0, hj, hx, wj, h']
def useG (f : Fl) (s : Sc) (r : Nat) : List V := row (sumN f.N r f.N.length) ((rsAt f.R r).ct * lenI f.loop s.ii s.dep)
theorem valid_bu {f : Fl} (h : validP f) : ∀ x ∈ f.N, 0 ≤ x.bu ∧ x.bu ≤ 256 := by
  intro x hx
  rcases h.2.2.2.1 x hx with ⟨_, h⟩ | ⟨_, h⟩
  · omega
  · rw [btw_iff] at h; omega
theorem fits_len {f : Fl} {s : Sc} (h : fitsP f s) : 0 ≤ lenI f.loop s.ii s.dep ∧ lenI f.loop s.ii s.dep ≤ 4096 := by
  have h1 := btw_iff.mp h.ii
  have h2 := btw_iff.mp h.dep
  unfold lenI
  split <;> omega
theorem d6 (K : Nat) (f : Fl) (hf : f.Ok) (s : Sc) (hs : s.Ok) (hA : f.A.length ≤ 10000) (hR : f.R.length ≤ 100) (hN : f.N.length ≤ 10000) (hS : s.S.length ≤ 10000) (hP : s.P.length ≤ 10000) (hU : s.U.length ≤ 10000) (hK : 50000 ≤ K) :
    (¬ (validP f ∧ fitsP f s) → ∃ d, callF tbl pu (K + 3) 6 [f.v, s.v] [] = some (.nils, [], d)) ∧ (validP f ∧ fitsP f s → ∃ d, callF tbl pu (K + 3) 6 [f.v, s.v] [] = some (oVr 0 f.R.length, oHr (useG f s) f.R.length, d)) := by
  obtain ⟨b, d0, h10, hb10⟩ := d10 K f hf s hs (by omega) (by omega) (by omega) hS hP hU (by omega)
  have hbu := fun h : validP f => valid_bu h
  have hctA := fun h : validP f => valid_ct h
  have hndA := fun (h : validP f) {j : Nat} (hj : j < f.N.length) => valid_nd h hj
  have hle := fun h : fitsP f s => fits_len h
  have hgu : useG f s = fun r : Nat => row (sumN f.N r f.N.length) ((rsAt f.R r).ct * lenI f.loop s.ii s.dep) := rfl
  have hn1 : validP f → ∀ j, j < f.N.length → (ndAt f.N j).rs = -1 ∨ 0 ≤ (ndAt f.N j).rs := by
    intro h j hj
    have e : ndAt f.N j = f.N[j] := by simp [ndAt, hj]
    rw [e]
    rcases h.2.2.2.1 _ (List.getElem_mem hj) with ⟨h, _⟩ | ⟨h, _⟩
    · exact .inl h
    · rw [btw_iff] at h; omega
  rw [hgu]
  generalize hV : (validP f ∧ fitsP f s) = VF at *
  obtain ⟨ins, par, loop, va, vr, vn, A, R, N⟩ := f
  obtain ⟨ii, dep, vs, vp, vu, S, P, U⟩ := s
  obtain ⟨oa, or, on⟩ := hf
  obtain ⟨os, op, ou⟩ := hs
  simp only at oa or on os op ou hR hN
  have ta := oa.tree
  have tr := or.tree
  have tn := on.tree
  have ts := os.tree
  have tp := op.tree
  have tu := ou.tree
  have ka := V.cell_of_tree ta
  have kr := V.cell_of_tree tr
  have kn := V.cell_of_tree tn
  have ks := V.cell_of_tree ts
  have kp := V.cell_of_tree tp
  have ku := V.cell_of_tree tu
  have lr := or.len
  have sr := or.lst
  have ln := on.len
  have sn := on.lst
  rw [List.length_map] at lr ln
  simp only at hbu hctA hndA hle hn1 hA hS hP hU
  unfold Fl.v Sc.v at *
  simp only at h10
  cases b with
  | false =>
    have hnV : ¬ VF := fun h => by have := hb10.mpr h; cases this
    refine ⟨fun _ => ⟨false, ?_⟩, fun h => absurd h hnV⟩
    rw [callF_eq tbl6, Ytllnlcifddhapaa.c6]
    simp [ka, kr, kn, ks, kp, ku, ta, tr, tn, ts, tp, tu, callV_pu, h10]
  | true =>
    have hVF := hb10.mp rfl
    refine ⟨fun h => absurd hVF h, fun _ => ?_⟩
    rw [← hV] at hVF
    obtain ⟨hv, hfit⟩ := hVF
    have hb := hbu hv
    have hct := hctA hv
    have hl := hle hfit
    have hn1 := hn1 hv
    have hnd := fun {j : Nat} (hj : j < N.length) => hndA hv hj
    clear hbu hctA hndA hle hb10 hV
    have hbk : ∀ j, j < R.length → IntKind.i64.wrap ((rsAt R j).ct * lenI loop ii dep) = (rsAt R j).ct * lenI loop ii dep := by
      intro j hj
      have h1 := hct _ (rsAt_mem hj)
      have h2 : (rsAt R j).ct * lenI loop ii dep ≤ 1024 * 4096 := Int.mul_le_mul h1.2 hl.2 hl.1 (by omega)
      have h3 : 0 ≤ (rsAt R j).ct * lenI loop ii dep := Int.mul_nonneg (by omega) hl.1
      exact wrap64 (by omega) (by omega)
    generalize hg0 : (fun r : Nat => row 0 ((rsAt R r).ct * lenI loop ii dep)) = g0
    have L1 : ∀ s, tidy [2, 5, 6, 22, 23, 24] 0 s = some (T6b ins par loop va vr vn (lenI loop ii dep) .nils [] R.length 0 false) → iter (tidy [2, 5, 6, 22, 23, 24] 0) (execC (callF tbl pu (K + 2)) pu 0 (K + 2) c6_b1) (K + 2) s =
        some (.exit 0, ⟨(T6b ins par loop va vr vn (lenI loop ii dep) (oVr 1 R.length) (oHr g0 R.length) R.length R.length (R.length != 0)).fr.set 25 (.bool false), (T6b ins par loop va vr vn (lenI loop ii dep) (oVr 1 R.length) (oHr g0 R.length) R.length R.length (R.length != 0)).H, (R.length != 0)⟩) := by
      intro s hs
      refine iter_to (fun j => T6b ins par loop va vr vn (lenI loop ii dep) (oVr 1 j) (oHr g0 j) R.length j (j != 0)) R.length (by rw [hs]; rfl) (by omega) ?_ (by simp [T6b, c6_b1]) (by simp)
      intro j hj
      have hj' : j < (R.map Rs.vs).length := by simpa using hj
      have e := or.tsl hj'
      subst e
      by_cases h0 : j = 0
      · have := s6b (callF tbl pu (K + 2)) (K + 2) ins par loop va vn (lenI loop ii dep) (R.map Rs.vs) R.length j (rsAt R j) false (by simp) (rsAt_get hj) hj (by omega) ta tn (hbk j hj) h0
        subst h0
        simpa [oVr, oHr, rows, ← hg0] using this
      · have := s6c (callF tbl pu (K + 2)) (K + 2) ins par loop va vn (lenI loop ii dep) (R.map Rs.vs) R.length j (rsAt R j) (j != 0) (by simp) (rsAt_get hj) hj (by omega) ta tn (hbk j hj) (rows g0 j) (rows g0 (j + 1)) (rows_len g0 j) (by rw [← hg0]; rfl)
        simp only [oVr, oHr, if_neg h0, if_neg (Nat.succ_ne_zero j)]
        rw [this]
        simp
    by_cases hR0 : R.length = 0
    · -- no resources
      have L2 : ∀ s, tidy [6, 38, 39, 40] 0 s = some (T6z vn N.length 0 false) → iter (tidy [6, 38, 39, 40] 0) (execC (callF tbl pu (K + 2)) pu 0 (K + 2) c6_b0) (K + 2) s =
          some (.exit 2, ⟨(T6z vn N.length N.length (N.length != 0)).fr.set 41 (.bool false), [], (N.length != 0)⟩) := by
        intro s hs
        refine iter_to (fun j => T6z vn N.length j (j != 0)) N.length (by rw [hs]; rfl) (by omega) ?_ (by simp [T6z, c6_b0]) (by simp)
        intro j hj
        have e := on.tsl (i := j) (by simpa using hj)
        have h1 := hnd hj
        have := s6z (callF tbl pu (K + 2)) (K + 2) (N.map Nd.vs) N.length j (ndAt N j) (j != 0) (by simp) (ndAt_get hj) hj (by omega) (by omega)
        rw [← e] at this
        rw [this]
        simp
      refine ⟨N.length != 0, ?_⟩
      rw [hR0] at L1
      cases loop with
      | true =>
        rw [callF_eq tbl6, Ytllnlcifddhapaa.c6]
        simp [execC_loop, -kIter_succ, -tidy, ka, kr, kn, ks, kp, ku, ta, tr, tn, ts, tp, tu, callV_pu, h10, kLen_lst, sr, lr, hR0]
        rw [L1 _ (by simp [T6b, bxF, ka, kr, kn, ks, kp, ku, ta, tr, tn, ts, tp, tu, lenI])]
        simp [T6b, bxF, execC_loop, -kIter_succ, -tidy, ka, kr, kn, ks, kp, ku, ta, tr, tn, ts, tp, tu, kLen_lst, sn, ln, oVr, oHr]
        rw [L2 _ (by simp [T6z, ka, kr, kn, ks, kp, ku, ta, tr, tn, ts, tp, tu])]
        simp [T6z]
      | false =>
        rw [callF_eq tbl6, Ytllnlcifddhapaa.c6]
        simp [execC_loop, -kIter_succ, -tidy, ka, kr, kn, ks, kp, ku, ta, tr, tn, ts, tp, tu, callV_pu, h10, kLen_lst, sr, lr, hR0]
        rw [L1 _ (by simp [T6b, bxF, ka, kr, kn, ks, kp, ku, ta, tr, tn, ts, tp, tu, lenI])]
        simp [T6b, bxF, execC_loop, -kIter_succ, -tidy, ka, kr, kn, ks, kp, ku, ta, tr, tn, ts, tp, tu, kLen_lst, sn, ln, oVr, oHr]
        rw [L2 _ (by simp [T6z, ka, kr, kn, ks, kp, ku, ta, tr, tn, ts, tp, tu])]
        simp [T6z]
    · have gj : ∃ gj : Nat → Nat → List V, gj = fun (j r : Nat) => row (sumN N r j) ((rsAt R r).ct * lenI loop ii dep) := ⟨_, rfl⟩
      obtain ⟨gj, hgj⟩ := gj
      have L2 : ∀ s, tidy [6, 38, 39, 40] 0 s = some (T6a vn R.length (rows (gj 0) R.length) N.length 0 true) → iter (tidy [6, 38, 39, 40] 0) (execC (callF tbl pu (K + 2)) pu 0 (K + 2) c6_b0) (K + 2) s =
          some (.exit 2, ⟨(T6a vn R.length (rows (gj N.length) R.length) N.length N.length true).fr.set 41 (.bool false), [⟨2, rows (gj N.length) R.length, 0, false, true⟩], true⟩) := by
        intro s hs
        refine iter_to (fun j => T6a vn R.length (rows (gj j) R.length) N.length j true) N.length (by rw [hs]) (by omega) ?_ (by simp [T6a, c6_b0]) (by simp)
        intro j hj
        have e := on.tsl (i := j) (by simpa using hj)
        have h1 := hnd hj
        have hx : N[j]? = some (ndAt N j) := by simp [ndAt, hj]
        have hstep : ∀ r : Nat, sumN N r (j + 1) = sumN N r j + (if (ndAt N j).rs = (r : Int) then (ndAt N j).bu else 0) := by
          intro r
          simp only [sumN, hx]
        rcases hn1 j hj with h2 | h2
        · have := s6n (callF tbl pu (K + 2)) (K + 2) (N.map Nd.vs) (rows (gj j) R.length) R.length N.length j (ndAt N j) true (by simp) (ndAt_get hj) hj (by omega) (by omega)
          rw [← e] at this
          rw [this, rows_congr (gj j) (gj (j + 1)) R.length fun k hk => by
            rw [hgj]; simp only; rw [hstep, if_neg (by omega)]; simp]
        · obtain ⟨i, hi⟩ : ∃ i : Nat, (ndAt N j).rs = i := ⟨(ndAt N j).rs.toNat, by omega⟩
          have hiR : i < R.length := by omega
          have b1 := sumN_bound N i hb j
          have b2 := hb (ndAt N j) (List.mem_iff_getElem?.mpr ⟨j, hx⟩)
          have := s6y (callF tbl pu (K + 2)) (K + 2) (N.map Nd.vs) (rows (gj j) R.length) R.length N.length j (ndAt N j) true (by simp) (ndAt_get hj) hj (by omega) (rows_len _ _) i _ _ hi hiR (by rw [rows_get _ _ _ hiR, hgj]) (wrap64 (by omega) (by omega))
          rw [← e] at this
          rw [this]
          have e2 : row (sumN N i j + (ndAt N j).bu) ((rsAt R i).ct * lenI loop ii dep) = gj (j + 1) i := by
            rw [hgj]; simp only; rw [hstep, if_pos hi]
          rw [e2, rows_set (gj j) (gj (j + 1)) R.length i hiR rfl fun k hk hki => by
            rw [hgj]; simp only; rw [hstep, if_neg (by omega)]; simp]
      have hg00 : rows g0 R.length = rows (gj 0) R.length := rows_congr _ _ _ fun k _ => by rw [hgj, ← hg0]; rfl
      have hgN : gj N.length = fun r : Nat => row (sumN N r N.length) ((rsAt R r).ct * lenI loop ii dep) := by rw [hgj]
      have hoV : ∀ b, oVr b R.length = .sl 2 b R.length 0 R.length := fun b => by simp [oVr, hR0]
      have hoH : oHr g0 R.length = [⟨2, rows (gj 0) R.length, 0, false, true⟩] := by simp [oHr, hR0, hg00]
      have hbne : (R.length != 0) = true := by simpa using hR0
      rw [hoV, hoH, hbne] at L1
      refine ⟨true, ?_⟩
      rw [hoV, ← hgN]
      simp only [oHr, if_neg hR0]
      cases loop with
      | true =>
        rw [callF_eq tbl6, Ytllnlcifddhapaa.c6]
        simp [execC_loop, -kIter_succ, -tidy, ka, kr, kn, ks, kp, ku, ta, tr, tn, ts, tp, tu, callV_pu, h10, kLen_lst, sr, lr]
        rw [L1 _ (by simp [T6b, bxF, ka, kr, kn, ks, kp, ku, ta, tr, tn, ts, tp, tu, lenI])]
        simp [T6b, bxF, execC_loop, -kIter_succ, -tidy, ka, kr, kn, ks, kp, ku, ta, tr, tn, ts, tp, tu, kLen_lst, sn, ln]
        rw [L2 _ (by simp [T6a, ka, kr, kn, ks, kp, ku, ta, tr, tn, ts, tp, tu])]
        simp [T6a]
      | false =>
        rw [callF_eq tbl6, Ytllnlcifddhapaa.c6]
        simp [execC_loop, -kIter_succ, -tidy, ka, kr, kn, ks, kp, ku, ta, tr, tn, ts, tp, tu, callV_pu, h10, kLen_lst, sr, lr]
        rw [L1 _ (by simp [T6b, bxF, ka, kr, kn, ks, kp, ku, ta, tr, tn, ts, tp, tu, lenI])]
        simp [T6b, bxF, execC_loop, -kIter_succ, -tidy, ka, kr, kn, ks, kp, ku, ta, tr, tn, ts, tp, tu, kLen_lst, sn, ln]
        rw [L2 _ (by simp [T6a, ka, kr, kn, ks, kp, ku, ta, tr, tn, ts, tp, tu])]
        simp [T6a]
end Go.AM.Ytllnlcifddhapaa
