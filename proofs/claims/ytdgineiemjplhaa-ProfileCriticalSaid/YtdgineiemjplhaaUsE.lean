/- dataflow.Valid: what it returns. -/
import Derived.Test.YtdgineiemjplhaaUsD
set_option linter.unusedVariables false
set_option linter.unusedSimpArgs false
namespace Go.AM.Ytdgineiemjplhaa
open Go Go.AM
set_option maxRecDepth 100000
set_option maxHeartbeats 0
def ndAt (N : List Nd) (v : Nat) : Nd := (N[v]?).getD ⟨0, 0⟩
def arcAt (A : List Arc) (v : Nat) : Arc := (A[v]?).getD ⟨0, 0, 0, 0⟩
theorem arcAt_get {A : List Arc} {v : Nat} (h : v < A.length) : (A.map Arc.vs)[v]? = some (arcAt A v).vs := by
  simp [arcAt, h]
theorem ndAt_get {N : List Nd} {v : Nat} (h : v < N.length) : (N.map Nd.vs)[v]? = some (ndAt N v).vs := by
  simp [ndAt, h]
def frameP (f : Fl) (n : Nat) : Prop := 2 * n + 1 ≤ f.A.length ∧ (∀ v, v < n + 1 → f1B n v (arcAt f.A v)) ∧ (∀ v, v < n → f2B f.ins n v (ndAt f.N v).bu (arcAt f.A (n + 1 + v)))
theorem d51 (k : Nat) (f : Fl) (hf : f.Ok) (n : Nat) (w1 : IntKind.i64.wrap (f.ins + f.par) = n) (hb : n ≤ 100000) (hA : f.A.length ≤ 100000000) (hN : (f.N.length : Int) = f.ins) : RB (frameP f n) (callF tbl pu (k + n + 10) 51 [f.v] []) := by
  obtain ⟨ins, par, loop, va, vr, vn, A, R, N⟩ := f
  obtain ⟨oa, or, on⟩ := hf
  simp only at oa or on hA hN w1
  have ta := oa.tree
  have tr := or.tree
  have tn := on.tree
  have ka := oa.cell
  have kr := or.cell
  have kn := on.cell
  have la := oa.len
  have sa := oa.lst
  rw [List.length_map] at la
  have h24 := d49 (k + n + 8) ins par loop va vr vn ta tr tn
  rw [w1] at h24
  have w2 : IntKind.i64.wrap (2 * (n : Int)) = 2 * n := wrap64 (by omega) (by omega)
  have w3 : IntKind.i64.wrap (2 * (n : Int) + 1) = 2 * n + 1 := wrap64 (by omega) (by omega)
  have w4 : IntKind.i64.wrap ((n : Int) + 1) = (n : Int) + 1 := wrap64 (by omega) (by omega)
  rw [show k + n + 10 = (k + n + 9) + 1 from rfl, callF_eq tbl51, Ytdgineiemjplhaa.c51]
  unfold Fl.v
  by_cases c0 : (A.length : Int) < 2 * (n : Int) + 1
  · simp [execC_loop, -kIter_succ, -tidy, ka, kr, kn, ta, tr, tn, callV_pu, h24, kLen_lst, sa, la, w2, w3, c0]
    exact RB_false fun h => by have := h.1; simp only at this; omega
  · simp [execC_loop, -kIter_succ, -tidy, ka, kr, kn, ta, tr, tn, callV_pu, h24, kLen_lst, sa, la, w2, w3, w4, c0]
    have hAl : 2 * n + 1 ≤ A.length := by omega
    obtain rfl : va = .tsl 4 (A.map Arc.vs) := oa.tsl (i := 0) (by simp; omega)
    have L1 := loop_all (pre := tidy [1, 3, 18, 19] 0) (f := execC (callF tbl pu (k + n + 9)) pu 0 (k + n + 9) c51_b1) (fun j => T26a ins par loop (.tsl 4 (A.map Arc.vs)) vr vn n j false) (fun j => f1B n j (arcAt A j)) (n + 1) 2
      (.exit 0, ⟨(T26a ins par loop (.tsl 4 (A.map Arc.vs)) vr vn n (n + 1) false).fr.set 20 (.bool false), [bxF ins par loop (.tsl 4 (A.map Arc.vs)) vr vn], false⟩)
      (fun j hj hok => s26a _ ins par loop _ vr vn n j _ false (arcAt_get (by omega)) (by omega) (by simp; omega) (by omega) tr tn w1 hok)
      (fun j hj hok => r26a _ ins par loop _ vr vn n j _ false (arcAt_get (by omega)) (by omega) (by simp; omega) (by omega) tr tn w1 hok)
      (by simp [T26a, c51_b1]) (by simp)
    rcases L1 with ⟨g1, h1⟩ | ⟨g1, s', e1, h1⟩
    · rw [h1 _ _ (by omega) (by simp [T26a, bxF, ka, kr, kn, ta, tr, tn])]
      simp [T26a, bxF, execC_loop, -kIter_succ, -tidy, ka, kr, kn]
      have L2 := loop_all (pre := tidy [1, 3, 38, 39] 0) (f := execC (callF tbl pu (k + n + 9)) pu 0 (k + n + 9) c51_b0) (fun j => T26b ins par loop (.tsl 4 (A.map Arc.vs)) vr vn n j (j != 0)) (fun j => f2B ins n j (ndAt N j).bu (arcAt A (n + 1 + j))) n 2
        (.exit 2, ⟨(T26b ins par loop (.tsl 4 (A.map Arc.vs)) vr vn n n (n != 0)).fr.set 40 (.bool false), [bxF ins par loop (.tsl 4 (A.map Arc.vs)) vr vn], (n != 0)⟩)
        (fun j hj hok => by
          have := s26b (k + n + 8) ins par loop (A.map Arc.vs) vr (N.map Nd.vs) vn n j _ (ndAt N j) (j != 0) (arcAt_get (by omega)) hj (by simp; omega) (by omega) tr on w1 (fun h => ndAt_get (by omega)) hok
          rw [this]
          simp)
        (fun j hj hok => r26b _ ins par loop (A.map Arc.vs) vr (N.map Nd.vs) vn n j _ (ndAt N j) _ (arcAt_get (by omega)) hj (by simp; omega) (by omega) tr on w1 (fun h => ndAt_get (by omega)) hok)
        (by simp [T26b, c51_b0]) (by simp)
      rcases L2 with ⟨g2, h2⟩ | ⟨g2, s', e1, h2⟩
      · rw [h2 _ _ (by omega) (by simp [T26b, bxF, ka, kr, kn, ta, tr, tn])]
        simp [T26b, bxF]
        exact RB_true ⟨hAl, g1, g2⟩
      · rw [h2 _ _ (by omega) (by simp [T26b, bxF, ka, kr, kn, ta, tr, tn])]
        simp only [kBlk_ret, kSeq_ret]
        exact RB_ret rfl e1 fun h => g2 h.2.2
    · rw [h1 _ _ (by omega) (by simp [T26a, bxF, ka, kr, kn, ta, tr, tn])]
      simp only [kBlk_ret, kSeq_ret]
      exact RB_ret rfl e1 fun h => g1 h.2.1
def headP (f : Fl) : Prop := btw 0 f.ins 4096 = true ∧ btw 0 f.par 4094 = true ∧ (f.N.length : Int) = f.ins
def farI (f : Fl) : Int := if f.loop then 256 else 0
def validP (f : Fl) : Prop := headP f ∧ (∀ a ∈ f.A, arcB (f.ins + f.par) (farI f) a) ∧ (∀ r ∈ f.R, resB r) ∧ (∀ x ∈ f.N, ndB f.R.length x) ∧ frameP f (f.ins + f.par).toNat
theorem d30 (k : Nat) (f : Fl) (hf : f.Ok) (hA : f.A.length ≤ 100000000) (hR : f.R.length ≤ 100000000) (hN : f.N.length ≤ 100000000) : RB (validP f) (callF tbl pu (k + f.A.length + f.R.length + f.N.length + 10020) 30 [f.v] []) := by
  have hf0 := hf
  obtain ⟨ins, par, loop, va, vr, vn, A, R, N⟩ := f
  obtain ⟨oa, or, on⟩ := hf
  simp only at oa or on hA hR hN
  have ta := oa.tree
  have tr := or.tree
  have tn := on.tree
  have ka := oa.cell
  have kr := or.cell
  have kn := on.cell
  have la := oa.len
  have lr := or.len
  have ln := on.len
  have sa := oa.lst
  have sr := or.lst
  have sn := on.lst
  rw [List.length_map] at la lr ln
  simp only
  rw [show k + A.length + R.length + N.length + 10020 = (k + A.length + R.length + N.length + 10018) + 1 + 1 from rfl]
  generalize hK : k + A.length + R.length + N.length + 10018 = K
  have h23 := fun n lo hi => d48 K n lo hi
  rw [callF_eq tbl30, Ytdgineiemjplhaa.c30]
  unfold Fl.v
  cases b1 : btw 0 ins 4096
  · simp [ka, kr, kn, ta, tr, tn, callV_pu, h23, b1]
    exact RB_false fun h => by have := h.1.1; rw [b1] at this; cases this
  cases b2 : btw 0 par 4094
  · simp [ka, kr, kn, ta, tr, tn, callV_pu, h23, b1, b2]
    exact RB_false fun h => by have := h.1.2.1; rw [b2] at this; cases this
  by_cases c3 : (N.length : Int) = ins
  rotate_left
  · simp [ka, kr, kn, ta, tr, tn, callV_pu, h23, b1, b2, kLen_lst, sn, ln, c3]
    exact RB_false fun h => c3 h.1.2.2
  have i1 := btw_iff.mp b1
  have i2 := btw_iff.mp b2
  have w1 : IntKind.i64.wrap (ins + par) = ins + par := wrap64 (by omega) (by omega)
  have w2 : IntKind.i64.wrap (ins + par + 1) = ins + par + 1 := wrap64 (by omega) (by omega)
  have cont : ∀ far : Int, far = farI ⟨ins, par, loop, va, vr, vn, A, R, N⟩ → ∀ s, tidy [1, 3, 31, 32, 33] 0 s = some (T16a ins par loop va vr vn far A.length 0 false) →
      RB (validP ⟨ins, par, loop, va, vr, vn, A, R, N⟩) (kFin 0 [.t 2] (kSeq (callF tbl pu (K + 1)) pu 0 (K + 1) (.seq (.seq (.reg [⟨(some 65), none, (.fadr 4 (.t 1))⟩, ⟨(some 66), none, (.ld none (.t 65))⟩, ⟨(some 67), none, (.len false (.t 66))⟩, ⟨(some 68), none, (.mv (.c (.int .i64 0)))⟩]) (.block 2 (.loop [1, 66, 67, 68] c30_b1))) (.seq (.seq (.reg [⟨(some 83), none, (.fadr 5 (.t 1))⟩, ⟨(some 84), none, (.ld none (.t 83))⟩, ⟨(some 85), none, (.len false (.t 84))⟩, ⟨(some 86), none, (.mv (.c (.int .i64 0)))⟩]) (.block 4 (.loop [1, 84, 85, 86] c30_b0))) (.seq (.reg [⟨(some 113), none, (.ld (some 6) (.t 1))⟩, ⟨(some 114), none, (.call (.c (.fn 51 [])) [(.t 113)])⟩, ⟨(some 2), none, (.mv (.t 114))⟩]) .ret))) (kBlk 0 (iter (tidy [1, 3, 31, 32, 33] 0) (execC (callF tbl pu (K + 1)) pu 0 (K + 1) c30_b2) (K + 1) s)))) := by
    intro far hfar s hs
    have L1 := loop_all (pre := tidy [1, 3, 31, 32, 33] 0) (f := execC (callF tbl pu (K + 1)) pu 0 (K + 1) c30_b2) (fun j => T16a ins par loop va vr vn far A.length j (j != 0)) (fun j => ∀ h : j < A.length, arcB (ins + par) far A[j]) A.length 2
      (.exit 0, ⟨(T16a ins par loop va vr vn far A.length A.length (A.length != 0)).fr.set 34 (.bool false), [bxF ins par loop va vr vn], (A.length != 0)⟩)
      (by
        intro j hj hok
        have hj' : j < (A.map Arc.vs).length := by simpa using hj
        obtain rfl := oa.tsl hj'
        have := s16a K ins par loop _ vr vn far A.length j A[j] (j != 0) (by simp) (map_get hj') hj (by omega) tr tn w1 w2 (hok hj)
        rw [this]; simp)
      (by
        intro j hj hok
        have hj' : j < (A.map Arc.vs).length := by simpa using hj
        obtain rfl := oa.tsl hj'
        exact r16a K ins par loop _ vr vn far A.length j A[j] _ (by simp) (map_get hj') hj (by omega) tr tn w1 w2 (fun h => hok fun _ => h))
      (by simp [T16a, c30_b2]) (by simp)
    rcases L1 with ⟨g1, h1⟩ | ⟨g1, s', e1, h1⟩
    rotate_left
    · rw [h1 _ _ (by omega) hs]
      simp only [kBlk_ret, kSeq_ret]
      exact RB_ret rfl e1 fun h => g1 fun j _ hj => by rw [hfar]; exact h.2.1 _ (List.getElem_mem hj)
    rw [h1 _ _ (by omega) hs]
    simp [T16a, bxF, execC_loop, -kIter_succ, -tidy, ka, kr, kn, kLen_lst, sr, lr]
    have L2 := loop_all (pre := tidy [1, 66, 67, 68] 0) (f := execC (callF tbl pu (K + 1)) pu 0 (K + 1) c30_b1) (fun j => T16b ins par loop va vr vn R.length j (A.length != 0 || j != 0)) (fun j => ∀ h : j < R.length, resB R[j]) R.length 2
      (.exit 2, ⟨(T16b ins par loop va vr vn R.length R.length (A.length != 0 || R.length != 0)).fr.set 69 (.bool false), [bxF ins par loop va vr vn], (A.length != 0 || R.length != 0)⟩)
      (by
        intro j hj hok
        have hj' : j < (R.map Rs.vs).length := by simpa using hj
        obtain rfl := or.tsl hj'
        have := s16b K ins par loop _ va vn R.length j R[j] (A.length != 0 || j != 0) (by simp) (map_get hj') hj (by omega) ta tn (hok hj)
        rw [this]; simp)
      (by
        intro j hj hok
        have hj' : j < (R.map Rs.vs).length := by simpa using hj
        obtain rfl := or.tsl hj'
        exact r16b K ins par loop _ va vn R.length j R[j] _ (by simp) (map_get hj') hj (by omega) ta tn (fun h => hok fun _ => h))
      (by simp [T16b, c30_b1]) (by simp)
    rcases L2 with ⟨g2, h2⟩ | ⟨g2, s', e1, h2⟩
    rotate_left
    · rw [h2 _ _ (by omega) (by simp [T16b, bxF, ka, kr, kn, ta, tr, tn])]
      simp only [kBlk_ret, kSeq_ret]
      exact RB_ret rfl e1 fun h => g2 fun j _ hj => h.2.2.1 _ (List.getElem_mem hj)
    rw [h2 _ _ (by omega) (by simp [T16b, bxF, ka, kr, kn, ta, tr, tn])]
    simp [T16b, bxF, execC_loop, -kIter_succ, -tidy, ka, kr, kn, kLen_lst, sn, ln]
    have L3 := loop_all (pre := tidy [1, 84, 85, 86] 0) (f := execC (callF tbl pu (K + 1)) pu 0 (K + 1) c30_b0) (fun j => T16c ins par loop va vr vn N.length j (A.length != 0 || R.length != 0 || j != 0)) (fun j => ∀ h : j < N.length, ndB R.length N[j]) N.length 2
      (.exit 4, ⟨(T16c ins par loop va vr vn N.length N.length (A.length != 0 || R.length != 0 || N.length != 0)).fr.set 87 (.bool false), [bxF ins par loop va vr vn], (A.length != 0 || R.length != 0 || N.length != 0)⟩)
      (by
        intro j hj hok
        have hj' : j < (N.map Nd.vs).length := by simpa using hj
        obtain rfl := on.tsl hj'
        have := s16c K ins par loop _ (R.map Rs.vs) va vr N.length j N[j] (A.length != 0 || R.length != 0 || j != 0) (by simp) (map_get hj') hj (by omega) ta or (by simp; omega) (by simpa using hok hj)
        rw [this]; simp)
      (by
        intro j hj hok
        have hj' : j < (N.map Nd.vs).length := by simpa using hj
        obtain rfl := on.tsl hj'
        exact r16c K ins par loop _ (R.map Rs.vs) va vr N.length j N[j] _ (by simp) (map_get hj') hj (by omega) ta or (by simp; omega) (fun h => hok fun _ => by simpa using h))
      (by simp [T16c, c30_b0]) (by simp)
    rcases L3 with ⟨g3, h3⟩ | ⟨g3, s', e1, h3⟩
    rotate_left
    · rw [h3 _ _ (by omega) (by simp [T16c, bxF, ka, kr, kn, ta, tr, tn])]
      simp only [kBlk_ret, kSeq_ret]
      exact RB_ret rfl e1 fun h => g3 fun j _ hj => h.2.2.2.1 _ (List.getElem_mem hj)
    rw [h3 _ _ (by omega) (by simp [T16c, bxF, ka, kr, kn, ta, tr, tn])]
    have hn : ((ins + par).toNat : Int) = ins + par := Int.toNat_of_nonneg (by omega)
    obtain ⟨b, d, h26, hb26⟩ := d51 (K + 1 - (ins + par).toNat - 10) ⟨ins, par, loop, va, vr, vn, A, R, N⟩ hf0 (ins + par).toNat (by rw [w1, hn]) (by omega) hA c3
    rw [show K + 1 - (ins + par).toNat - 10 + (ins + par).toNat + 10 = K + 1 by omega] at h26
    unfold Fl.v at h26
    simp only at h26
    simp [T16c, bxF, ka, kr, kn, ta, tr, tn, callV_pu, h26]
    refine ⟨b, _, rfl, hb26.trans ⟨fun h => ⟨⟨b1, b2, c3⟩, ?_, ?_, ?_, h⟩, fun h => h.2.2.2.2⟩⟩
    · rw [← hfar]; exact all_idx.mp fun j h => g1 j h h
    · exact all_idx.mp fun j h => g2 j h h
    · exact all_idx.mp fun j h => g3 j h h
  cases loop with
  | true =>
    simp [execC_loop, -kIter_succ, -tidy, ka, kr, kn, ta, tr, tn, callV_pu, h23, b1, b2, kLen_lst, sn, ln, c3, sa, la]
    exact cont 256 rfl _ (by simp [T16a, bxF, ka, kr, kn, ta, tr, tn])
  | false =>
    simp [execC_loop, -kIter_succ, -tidy, ka, kr, kn, ta, tr, tn, callV_pu, h23, b1, b2, kLen_lst, sn, ln, c3, sa, la]
    exact cont 0 rfl _ (by simp [T16a, bxF, ka, kr, kn, ta, tr, tn])
end Go.AM.Ytdgineiemjplhaa
