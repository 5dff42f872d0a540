/- jacquardref28.Valid: what it returns; it is what dataflow.Valid returns. -/
import Derived.Test.YtdgineiemjplhaaUsG
set_option linter.unusedVariables false
set_option linter.unusedSimpArgs false
namespace Go.AM.Ytdgineiemjplhaa
open Go Go.AM
set_option maxRecDepth 100000
set_option maxHeartbeats 0
theorem d7 (k : Nat) (f : Fl) (hf : f.Ok) (hA : f.A.length ≤ 100000000) (hR : f.R.length ≤ 100000000) (hN : f.N.length ≤ 100000000) : RB (validP f) (callF tbl pu (k + f.A.length + f.R.length + f.N.length + 10020) 7 [f.v] []) := by
  obtain ⟨ins, par, loop, va, vr, vn, A, R, N⟩ := f
  obtain ⟨oa, or, on⟩ := hf
  simp only at oa or on hA hR hN
  have ta := oa.tree
  have tr := or.tree
  have tn := on.tree
  have ka := oa.cell
  have kr := or.cell
  have kn := on.cell
  have la := oa.len
  have lr := or.len
  have ln := on.len
  have sa := oa.lst
  have sr := or.lst
  have sn := on.lst
  rw [List.length_map] at la lr ln
  simp only
  rw [show k + A.length + R.length + N.length + 10020 = (k + A.length + R.length + N.length + 10018) + 1 + 1 from rfl]
  generalize hK : k + A.length + R.length + N.length + 10018 = K
  rw [callF_eq tbl7, Ytdgineiemjplhaa.c7]
  unfold Fl.v
  by_cases c1 : ins < 0
  · simp [ka, kr, kn, c1]
    exact RB_false fun h => by have := btw_iff.mp h.1.1; simp only at this; omega
  by_cases c2 : 4096 < ins
  · simp [ka, kr, kn, c1, c2]
    exact RB_false fun h => by have := btw_iff.mp h.1.1; simp only at this; omega
  by_cases c3 : par < 0
  · simp [ka, kr, kn, c1, c2, c3]
    exact RB_false fun h => by have := btw_iff.mp h.1.2.1; simp only at this; omega
  by_cases c4 : 4094 < par
  · simp [ka, kr, kn, c1, c2, c3, c4]
    exact RB_false fun h => by have := btw_iff.mp h.1.2.1; simp only at this; omega
  by_cases c5 : (N.length : Int) = ins
  rotate_left
  · simp [ka, kr, kn, c1, c2, c3, c4, kLen_lst, sn, ln, c5]
    exact RB_false fun h => c5 h.1.2.2
  have b1 : btw 0 ins 4096 = true := btw_iff.mpr (by omega)
  have b2 : btw 0 par 4094 = true := btw_iff.mpr (by omega)
  obtain ⟨n, hn⟩ : ∃ n : Nat, ins + par = n := ⟨(ins + par).toNat, by omega⟩
  have hnt : (ins + par).toNat = n := by omega
  have w1 : IntKind.i64.wrap (ins + par) = n := by rw [wrap64 (by omega) (by omega), hn]
  have w2 : IntKind.i64.wrap ((n : Int) + 2) = (n : Int) + 2 := wrap64 (by omega) (by omega)
  have w3 : IntKind.i64.wrap (2 * ((n : Int) + 2)) = 2 * ((n : Int) + 2) := wrap64 (by omega) (by omega)
  have w4 : IntKind.i64.wrap (2 * ((n : Int) + 2) - 3) = 2 * (n : Int) + 1 := by rw [wrap64 (by omega) (by omega)]; omega
  have w5 : IntKind.i64.wrap ((n : Int) + 2 - 1) = (n : Int) + 1 := by rw [wrap64 (by omega) (by omega)]; omega
  have w7 : IntKind.i64.wrap (n : Int) = (n : Int) := wrap64 (by omega) (by omega)
  have w6 : IntKind.i64.wrap ((n : Int) + 2 - 2) = (n : Int) := by rw [wrap64 (by omega) (by omega)]; omega
  simp [execC_loop, -kIter_succ, -tidy, ka, kr, kn, c1, c2, c3, c4, kLen_lst, sn, ln, sa, la, c5, w1, w2]
  have L1 := loop_all (pre := tidy [1, 3, 47, 48] 0) (f := execC (callF tbl pu (K + 1)) pu 0 (K + 1) c7_b4) (fun j => T11e ins par loop va vr vn n A.length j (j != 0)) (fun j => ∀ h : j < A.length, arcB n (if loop then 256 else 0) A[j]) A.length 2
    (.exit 0, ⟨(T11e ins par loop va vr vn n A.length A.length (A.length != 0)).fr.set 49 (.bool false), [bxF ins par loop va vr vn], (A.length != 0)⟩)
    (by
      intro j hj hok
      have hj' : j < (A.map Arc.vs).length := by simpa using hj
      obtain rfl := oa.tsl hj'
      have := s11e (K + 1) ins par loop (callF tbl pu (K + 1)) _ vr vn n A.length j A[j] (j != 0) (by simp) (map_get hj') hj (by omega) (by omega) tr tn (hok hj)
      rw [this]; simp)
    (by
      intro j hj hok
      have hj' : j < (A.map Arc.vs).length := by simpa using hj
      obtain rfl := oa.tsl hj'
      exact r11e (K + 1) ins par loop (callF tbl pu (K + 1)) _ vr vn n A.length j A[j] _ (by simp) (map_get hj') hj (by omega) (by omega) tr tn (fun h => hok fun _ => h))
    (by simp [T11e, c7_b4]) (by simp)
  rcases L1 with ⟨g1, h1⟩ | ⟨g1, s', e1, h1⟩
  rotate_left
  · rw [h1 _ _ (by omega) (by simp [T11e, bxF, ka, kr, kn, ta, tr, tn])]
    simp only [kBlk_ret, kSeq_ret]
    exact RB_ret rfl e1 fun h => g1 fun j _ hj => by have := h.2.1 _ (List.getElem_mem hj); simp only [hn] at this; exact this
  rw [h1 _ _ (by omega) (by simp [T11e, bxF, ka, kr, kn, ta, tr, tn])]
  by_cases c6 : (A.length : Int) < 2 * (n : Int) + 1
  · simp [T11e, bxF, execC_loop, -kIter_succ, -tidy, ka, kr, kn, kLen_lst, sa, la, w3, w4, c6]
    exact RB_false fun h => by have := h.2.2.2.2.1; simp only [hnt] at this; omega
  simp [T11e, bxF, execC_loop, -kIter_succ, -tidy, ka, kr, kn, kLen_lst, sa, la, w3, w4, w5, c6]
  have hAl : 2 * n + 1 ≤ A.length := by omega
  obtain rfl : va = .tsl 4 (A.map Arc.vs) := oa.tsl (i := 0) (by simp; omega)
  have L2 := loop_all (pre := tidy [1, 3, 116, 117] 0) (f := execC (callF tbl pu (K + 1)) pu 0 (K + 1) c7_b3) (fun j => T11d ins par loop (.tsl 4 (A.map Arc.vs)) vr vn n j (A.length != 0)) (fun j => f1B n j (arcAt A j)) (n + 1) 2
    (.exit 2, ⟨(T11d ins par loop (.tsl 4 (A.map Arc.vs)) vr vn n (n + 1) (A.length != 0)).fr.set 118 (.bool false), [bxF ins par loop (.tsl 4 (A.map Arc.vs)) vr vn], (A.length != 0)⟩)
    (fun j hj hok => s11d K ins par loop _ vr vn n j _ _ (arcAt_get (by omega)) (by omega) (by simp; omega) (by omega) tr tn w1 hok)
    (fun j hj hok => r11d K ins par loop _ vr vn n j _ _ (arcAt_get (by omega)) (by omega) (by simp; omega) (by omega) tr tn w1 hok)
    (by simp [T11d, c7_b3]) (by simp)
  rcases L2 with ⟨g2, h2⟩ | ⟨g2, s', e1, h2⟩
  rotate_left
  · rw [h2 _ _ (by omega) (by simp [T11d, bxF, ka, kr, kn, ta, tr, tn])]
    simp only [kBlk_ret, kSeq_ret]
    exact RB_ret rfl e1 fun h => g2 (by have := h.2.2.2.2.2.1; simp only [hnt] at this; exact this)
  rw [h2 _ _ (by omega) (by simp [T11d, bxF, ka, kr, kn, ta, tr, tn])]
  simp [T11d, bxF, execC_loop, -kIter_succ, -tidy, ka, kr, kn, kLen_lst, sr, lr]
  have L3 := loop_all (pre := tidy [1, 3, 140, 141] 0) (f := execC (callF tbl pu (K + 1)) pu 0 (K + 1) c7_b2) (fun j => T11c ins par loop (.tsl 4 (A.map Arc.vs)) vr vn n R.length j (A.length != 0)) (fun j => ∀ h : j < R.length, resB R[j]) R.length 2
    (.exit 4, ⟨(T11c ins par loop (.tsl 4 (A.map Arc.vs)) vr vn n R.length R.length (A.length != 0)).fr.set 142 (.bool false), [bxF ins par loop (.tsl 4 (A.map Arc.vs)) vr vn], (A.length != 0)⟩)
    (by
      intro j hj hok
      have hj' : j < (R.map Rs.vs).length := by simpa using hj
      obtain rfl := or.tsl hj'
      exact s11c (K + 1) ins par loop _ _ _ vn n R.length j R[j] _ (by simp) (map_get hj') hj (by omega) rfl tn (hok hj))
    (by
      intro j hj hok
      have hj' : j < (R.map Rs.vs).length := by simpa using hj
      obtain rfl := or.tsl hj'
      exact r11c (K + 1) ins par loop _ _ _ vn n R.length j R[j] _ (by simp) (map_get hj') hj (by omega) rfl tn (fun h => hok fun _ => h))
    (by simp [T11c, c7_b2]) (by simp)
  rcases L3 with ⟨g3, h3⟩ | ⟨g3, s', e1, h3⟩
  rotate_left
  · rw [h3 _ _ (by omega) (by simp [T11c, bxF, ka, kr, kn, ta, tr, tn])]
    simp only [kBlk_ret, kSeq_ret]
    exact RB_ret rfl e1 fun h => g3 fun j _ hj => h.2.2.1 _ (List.getElem_mem hj)
  rw [h3 _ _ (by omega) (by simp [T11c, bxF, ka, kr, kn, ta, tr, tn])]
  simp [T11c, bxF, execC_loop, -kIter_succ, -tidy, ka, kr, kn, w6, w7]
  have L4 := loop_all (pre := tidy [1, 3, 180, 181] 0) (f := execC (callF tbl pu (K + 1)) pu 0 (K + 1) c7_b1) (fun j => T11b ins par loop (.tsl 4 (A.map Arc.vs)) vr vn n j (A.length != 0 || j != 0)) (fun j => f2B ins n j (ndAt N j).bu (arcAt A (n + 1 + j))) n 2
    (.exit 6, ⟨(T11b ins par loop (.tsl 4 (A.map Arc.vs)) vr vn n n (A.length != 0 || n != 0)).fr.set 182 (.bool false), [bxF ins par loop (.tsl 4 (A.map Arc.vs)) vr vn], (A.length != 0 || n != 0)⟩)
    (fun j hj hok => by
      have := s11b K ins par loop (A.map Arc.vs) vr (N.map Nd.vs) vn n j _ (ndAt N j) (A.length != 0 || j != 0) (arcAt_get (by omega)) hj (by simp; omega) (by omega) tr on w1 (fun h => ndAt_get (by omega)) hok
      rw [this]
      simp)
    (fun j hj hok => r11b K ins par loop (A.map Arc.vs) vr (N.map Nd.vs) vn n j _ (ndAt N j) _ (arcAt_get (by omega)) hj (by simp; omega) (by omega) tr on w1 (fun h => ndAt_get (by omega)) hok)
    (by simp [T11b, c7_b1]) (by simp)
  rcases L4 with ⟨g4, h4⟩ | ⟨g4, s', e1, h4⟩
  rotate_left
  · rw [h4 _ _ (by omega) (by simp [T11b, bxF, ka, kr, kn, ta, tr, tn])]
    simp only [kBlk_ret, kSeq_ret]
    exact RB_ret rfl e1 fun h => g4 (by have := h.2.2.2.2.2.2; simp only [hnt] at this; exact this)
  rw [h4 _ _ (by omega) (by simp [T11b, bxF, ka, kr, kn, ta, tr, tn])]
  simp [T11b, bxF, execC_loop, -kIter_succ, -tidy, ka, kr, kn, kLen_lst, sn, ln]
  have L5 := loop_all (pre := tidy [1, 229, 230] 0) (f := execC (callF tbl pu (K + 1)) pu 0 (K + 1) c7_b0) (fun j => T11a ins par loop (.tsl 4 (A.map Arc.vs)) vr vn N.length j (A.length != 0 || n != 0 || j != 0)) (fun j => ∀ h : j < N.length, ndB R.length N[j]) N.length 2
    (.exit 8, ⟨(T11a ins par loop (.tsl 4 (A.map Arc.vs)) vr vn N.length N.length (A.length != 0 || n != 0 || N.length != 0)).fr.set 231 (.bool false), [bxF ins par loop (.tsl 4 (A.map Arc.vs)) vr vn], (A.length != 0 || n != 0 || N.length != 0)⟩)
    (by
      intro j hj hok
      have hj' : j < (N.map Nd.vs).length := by simpa using hj
      obtain rfl := on.tsl hj'
      have := s11a (K + 1) ins par loop (callF tbl pu (K + 1)) _ (R.map Rs.vs) (.tsl 4 (A.map Arc.vs)) vr N.length j N[j] (A.length != 0 || n != 0 || j != 0) (by simp) (map_get hj') hj (by omega) rfl or (by simp; omega) (by simpa using hok hj)
      rw [this]; simp)
    (by
      intro j hj hok
      have hj' : j < (N.map Nd.vs).length := by simpa using hj
      obtain rfl := on.tsl hj'
      exact r11a (K + 1) ins par loop (callF tbl pu (K + 1)) _ (R.map Rs.vs) (.tsl 4 (A.map Arc.vs)) vr N.length j N[j] _ (by simp) (map_get hj') hj (by omega) rfl or (by simp; omega) (fun h => hok fun _ => by simpa using h))
    (by simp [T11a, c7_b0]) (by simp)
  rcases L5 with ⟨g5, h5⟩ | ⟨g5, s', e1, h5⟩
  rotate_left
  · rw [h5 _ _ (by omega) (by simp [T11a, bxF, ka, kr, kn, ta, tr, tn])]
    simp only [kBlk_ret, kSeq_ret]
    exact RB_ret rfl e1 fun h => g5 fun j _ hj => h.2.2.2.1 _ (List.getElem_mem hj)
  rw [h5 _ _ (by omega) (by simp [T11a, bxF, ka, kr, kn, ta, tr, tn])]
  simp [T11a, bxF]
  refine RB_true ⟨⟨b1, b2, c5⟩, ?_, ?_, ?_, ?_⟩
  · simp only [hn, farI]; exact all_idx.mp fun j h => g1 j h h
  · exact all_idx.mp fun j h => g3 j h h
  · exact all_idx.mp fun j h => g5 j h h
  · simp only [hnt]; exact ⟨hAl, g2, g4⟩
end Go.AM.Ytdgineiemjplhaa
