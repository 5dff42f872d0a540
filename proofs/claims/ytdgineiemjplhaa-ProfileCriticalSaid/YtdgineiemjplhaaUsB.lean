/- Small flows. -/
import Derived.Test.YtdgineiemjplhaaUsA
set_option linter.unusedVariables false
set_option linter.unusedSimpArgs false
namespace Go.AM.Ytdgineiemjplhaa
open Go Go.AM
set_option maxRecDepth 100000
set_option maxHeartbeats 0
def T5a (ins par : Int) (loop : Bool) (va vr vn : V) (nn mm : Int) (n j : Nat) : St := ⟨[.undef, .int .i64 nn, .int .i64 mm, .ptr 0 1 0 0, .undef, .undef, .undef, .undef, .undef, .undef, .undef, .int .i64 n, .int .i64 j, .undef, .undef, .undef, .undef, .undef, .undef, .undef, .undef, .undef, .undef, .undef, .undef, .undef, .undef, .undef, .undef, .undef, .undef, .undef, .undef, .undef, .undef, .undef, .undef, .undef, .undef, .undef, .undef, .undef, .undef, .undef, .undef, .undef, .undef, .undef, .undef, .undef, .undef, .undef, .undef, .undef, .undef, .undef, .undef, .undef, .undef, .undef, .undef, .undef, .undef, .undef, .undef, .undef, .undef, .undef], [bxF ins par loop va vr vn], false⟩
def T5b (ins par : Int) (loop : Bool) (va vr vn : V) (nn mm : Int) (n j : Nat) : St := ⟨[.undef, .int .i64 nn, .int .i64 mm, .ptr 0 1 0 0, .undef, .undef, .undef, .undef, .undef, .undef, .undef, .undef, .undef, .undef, .undef, .undef, .undef, .undef, .undef, .undef, .undef, .undef, .undef, .undef, .undef, .undef, .undef, .undef, .undef, .undef, .undef, .undef, .undef, .undef, .int .i64 n, .int .i64 j, .undef, .undef, .undef, .undef, .undef, .undef, .undef, .undef, .undef, .undef, .undef, .undef, .undef, .undef, .undef, .undef, .undef, .undef, .undef, .undef, .undef, .undef, .undef, .undef, .undef, .undef, .undef, .undef, .undef, .undef, .undef, .undef], [bxF ins par loop va vr vn], false⟩
section
variable (call : CallT) (k : Nat) (ins par : Int) (loop : Bool) (nn mm : Int)
theorem s5a (es : List (List V)) (vr vn : V) (n j : Nat) (a : Arc) (hn : es.length = n) (hx : es[j]? = some a.vs) (hj : j < n) (hb : n ≤ 1000000000) (tr : vr.tree = true) (tn : vn.tree = true) (h1 : ¬ 60 < a.lat) (h2 : ¬ 20 < a.di) :
    kNext (tidy [1, 2, 3, 11, 12] 0) (execC call pu 0 k c5_b1 (T5a ins par loop (.tsl 4 es) vr vn nn mm n j)) = some (T5a ins par loop (.tsl 4 es) vr vn nn mm n (j + 1)) := by
  have wj : IntKind.i64.wrap ((j : Int) + 1) = (j : Int) + 1 := wrap64 (by omega) (by omega)
  have kr := V.cell_of_tree tr
  have kn := V.cell_of_tree tn
  subst hn
  rw [List.getElem?_eq_getElem hj, Option.some_inj] at hx
  unfold Arc.vs at hx
  simp [T5a, bxF, c5_b1, hj, hx, wj, kr, kn, tr, tn, h1, h2]
theorem r5a (es : List (List V)) (vr vn : V) (n j : Nat) (a : Arc) (hn : es.length = n) (hx : es[j]? = some a.vs) (hj : j < n) (tr : vr.tree = true) (tn : vn.tree = true) (hbad : ¬ (¬ 60 < a.lat ∧ ¬ 20 < a.di)) :
    retF 6 (execC call pu 0 k c5_b1 (T5a ins par loop (.tsl 4 es) vr vn nn mm n j)) := by
  have kr := V.cell_of_tree tr
  have kn := V.cell_of_tree tn
  subst hn
  rw [List.getElem?_eq_getElem hj, Option.some_inj] at hx
  unfold Arc.vs at hx
  by_cases h1 : 60 < a.lat
  · simp [T5a, bxF, c5_b1, hj, hx, kr, kn, h1]
  by_cases h2 : 20 < a.di
  · simp [T5a, bxF, c5_b1, hj, hx, kr, kn, h1, h2]
  exact absurd ⟨h1, h2⟩ hbad
theorem s5b (es : List (List V)) (va vr : V) (n j : Nat) (a : Nd) (hn : es.length = n) (hx : es[j]? = some a.vs) (hj : j < n) (hb : n ≤ 1000000000) (ta : va.tree = true) (tr : vr.tree = true) (h1 : ¬ 20 < a.bu) :
    kNext (tidy [1, 2, 3, 34, 35] 0) (execC call pu 0 k c5_b0 (T5b ins par loop va vr (.tsl 2 es) nn mm n j)) = some (T5b ins par loop va vr (.tsl 2 es) nn mm n (j + 1)) := by
  have wj : IntKind.i64.wrap ((j : Int) + 1) = (j : Int) + 1 := wrap64 (by omega) (by omega)
  have kr := V.cell_of_tree tr
  have ka := V.cell_of_tree ta
  subst hn
  rw [List.getElem?_eq_getElem hj, Option.some_inj] at hx
  unfold Nd.vs at hx
  simp [T5b, bxF, c5_b0, hj, hx, wj, kr, ka, tr, ta, h1]
theorem r5b (es : List (List V)) (va vr : V) (n j : Nat) (a : Nd) (hn : es.length = n) (hx : es[j]? = some a.vs) (hj : j < n) (ta : va.tree = true) (tr : vr.tree = true) (h1 : ¬ ¬ 20 < a.bu) :
    retF 6 (execC call pu 0 k c5_b0 (T5b ins par loop va vr (.tsl 2 es) nn mm n j)) := by
  have kr := V.cell_of_tree tr
  have ka := V.cell_of_tree ta
  have h1 : 20 < a.bu := by omega
  subst hn
  rw [List.getElem?_eq_getElem hj, Option.some_inj] at hx
  unfold Nd.vs at hx
  simp [T5b, bxF, c5_b0, hj, hx, kr, ka, h1]
end
def smallP (f : Fl) (nn mm : Int) : Prop := (∀ a ∈ f.A, ¬ 60 < a.lat ∧ ¬ 20 < a.di) ∧ (∀ a ∈ f.N, ¬ 20 < a.bu) ∧ f.ins ≤ nn ∧ f.par ≤ mm ∧ f.A.length ≤ 90 ∧ f.R.length ≤ 6
theorem map_get {α : Type} {g : α → List V} {l : List α} {j : Nat} (hj : j < (l.map g).length) : (l.map g)[j]? = some (g (l[j]'(by simpa using hj))) := by
  simp only [List.length_map] at hj
  simp [hj]
theorem all_idx {α : Type} {l : List α} {p : α → Prop} : (∀ j (h : j < l.length), p l[j]) ↔ ∀ x ∈ l, p x := by
  constructor
  · intro h x hx
    obtain ⟨j, hj, rfl⟩ := List.getElem_of_mem hx
    exact h j hj
  · intro h j hj
    exact h _ (List.getElem_mem hj)
theorem d5 (k : Nat) (f : Fl) (hf : f.Ok) (nn mm : Int) (hA : f.A.length ≤ 100000000) (hN : f.N.length ≤ 100000000) : RB (smallP f nn mm) (callF tbl pu (k + f.A.length + f.N.length + 10) 5 [f.v, .int .i64 nn, .int .i64 mm] []) := by
  obtain ⟨ins, par, loop, va, vr, vn, A, R, N⟩ := f
  obtain ⟨oa, or, on⟩ := hf
  simp only at oa or on hA hN
  have ta := oa.tree
  have tr := or.tree
  have tn := on.tree
  have ka := oa.cell
  have kr := or.cell
  have kn := on.cell
  have la := oa.len
  have lr := or.len
  have ln := on.len
  have sa := oa.lst
  have sr := or.lst
  have sn := on.lst
  rw [List.length_map] at la lr ln
  rw [show k + A.length + N.length + 10 = (k + A.length + N.length + 9) + 1 from rfl, callF_eq tbl5, Ytdgineiemjplhaa.c5]
  unfold Fl.v
  simp [execC_loop, -kIter_succ, -tidy, ka, kr, kn, kLen_lst, sa, la]
  have L1 := loop_all (pre := tidy [1, 2, 3, 11, 12] 0) (f := execC (callF tbl pu (k + A.length + N.length + 9)) pu 0 (k + A.length + N.length + 9) c5_b1) (fun j => T5a ins par loop va vr vn nn mm A.length j) (fun j => ∀ h : j < A.length, ¬ 60 < A[j].lat ∧ ¬ 20 < A[j].di) A.length 6
    (.exit 0, ⟨(T5a ins par loop va vr vn nn mm A.length A.length).fr.set 13 (.bool false), [bxF ins par loop va vr vn], false⟩)
    (by
      intro j hj hok
      have hj' : j < (A.map Arc.vs).length := by simpa using hj
      obtain rfl := oa.tsl hj'
      exact s5a _ _ ins par loop nn mm _ vr vn _ j A[j] (by simp) (map_get hj') hj (by omega) tr tn (hok hj).1 (hok hj).2)
    (by
      intro j hj hok
      have hj' : j < (A.map Arc.vs).length := by simpa using hj
      obtain rfl := oa.tsl hj'
      exact r5a _ _ ins par loop nn mm _ vr vn _ j A[j] (by simp) (map_get hj') hj tr tn (fun h => hok fun _ => h))
    (by simp [T5a, c5_b1]) (by simp)
  rcases L1 with ⟨g1, h1⟩ | ⟨g1, s', e1, h1⟩
  · rw [h1 _ _ (by omega) (by simp [T5a, bxF, ka, kr, kn, ta, tr, tn])]
    simp [T5a, bxF, execC_loop, -kIter_succ, -tidy, ka, kr, kn, kLen_lst, sn, ln]
    have L2 := loop_all (pre := tidy [1, 2, 3, 34, 35] 0) (f := execC (callF tbl pu (k + A.length + N.length + 9)) pu 0 (k + A.length + N.length + 9) c5_b0) (fun j => T5b ins par loop va vr vn nn mm N.length j) (fun j => ∀ h : j < N.length, ¬ 20 < N[j].bu) N.length 6
      (.exit 2, ⟨(T5b ins par loop va vr vn nn mm N.length N.length).fr.set 36 (.bool false), [bxF ins par loop va vr vn], false⟩)
      (by
        intro j hj hok
        have hj' : j < (N.map Nd.vs).length := by simpa using hj
        obtain rfl := on.tsl hj'
        exact s5b _ _ ins par loop nn mm _ va vr _ j N[j] (by simp) (map_get hj') hj (by omega) ta tr (hok hj))
      (by
        intro j hj hok
        have hj' : j < (N.map Nd.vs).length := by simpa using hj
        obtain rfl := on.tsl hj'
        exact r5b _ _ ins par loop nn mm _ va vr _ j N[j] (by simp) (map_get hj') hj ta tr (fun h => hok fun _ => h))
      (by simp [T5b, c5_b0]) (by simp)
    rcases L2 with ⟨g2, h2⟩ | ⟨g2, s', e1, h2⟩
    · rw [h2 _ _ (by omega) (by simp [T5b, bxF, ka, kr, kn, ta, tr, tn])]
      have G1 : ∀ a ∈ A, ¬ 60 < a.lat ∧ ¬ 20 < a.di := all_idx.mp fun j h => g1 j h h
      have G2 : ∀ a ∈ N, ¬ 20 < a.bu := all_idx.mp fun j h => g2 j h h
      clear h1 h2
      by_cases i1 : ins ≤ nn
      · by_cases i2 : par ≤ mm
        · by_cases i3 : A.length ≤ 90
          · have i3' : (A.length : Int) ≤ 90 := by omega
            by_cases i4 : R.length ≤ 6
            · have i4' : (R.length : Int) ≤ 6 := by omega
              simp [T5b, bxF, i1, i2, i3, i4, i3', i4', kLen_lst, sa, sr, la, lr]
              exact RB_true ⟨G1, G2, i1, i2, i3, i4⟩
            · have i4' : ¬ (R.length : Int) ≤ 6 := by omega
              simp [T5b, bxF, i1, i2, i3, i4, i3', i4', kLen_lst, sa, sr, la, lr]
              exact RB_false fun h => i4 h.2.2.2.2.2
          · have i3' : ¬ (A.length : Int) ≤ 90 := by omega
            simp [T5b, bxF, i1, i2, i3, i3', kLen_lst, sa, sr, la, lr]
            exact RB_false fun h => i3 h.2.2.2.2.1
        · simp [T5b, bxF, i1, i2, kLen_lst, sa, sr, la, lr]
          exact RB_false fun h => i2 h.2.2.2.1
      · simp [T5b, bxF, i1, kLen_lst, sa, sr, la, lr]
        exact RB_false fun h => i1 h.2.2.1
    · rw [h2 _ _ (by omega) (by simp [T5b, bxF, ka, kr, kn, ta, tr, tn])]
      simp only [kBlk_ret, kSeq_ret]
      exact RB_ret rfl e1 fun h => g2 fun j _ hj => h.2.1 _ (List.getElem_mem hj)
  · rw [h1 _ _ (by omega) (by simp [T5a, bxF, ka, kr, kn, ta, tr, tn])]
    simp only [kBlk_ret, kSeq_ret]
    exact RB_ret rfl e1 fun h => g1 fun j _ hj => h.1 _ (List.getElem_mem hj)
end Go.AM.Ytdgineiemjplhaa

set_option linter.unusedVariables false
set_option linter.unusedSimpArgs false
namespace Go.AM.Ytdgineiemjplhaa
open Go Go.AM
set_option maxRecDepth 100000
set_option maxHeartbeats 0
section
variable (call : CallT) (k : Nat) (ins par : Int) (loop : Bool) (nn mm : Int)
theorem s5aL (es : List (List V)) (vr vn : V) (n j : Nat) (a : Arc) (hn : es.length = n) (hx : es[j]? = some a.vs) (hj : j < n) (hb : n ≤ 1000000000000000) (tr : vr.tree = true) (tn : vn.tree = true) (h1 : ¬ 60 < a.lat) (h2 : ¬ 20 < a.di) :
    kNext (tidy [1, 2, 3, 11, 12] 0) (execC call pu 0 k c5_b1 (T5a ins par loop (.tsl 4 es) vr vn nn mm n j)) = some (T5a ins par loop (.tsl 4 es) vr vn nn mm n (j + 1)) := by
  have wj : IntKind.i64.wrap ((j : Int) + 1) = (j : Int) + 1 := wrap64 (by omega) (by omega)
  have kr := V.cell_of_tree tr
  have kn := V.cell_of_tree tn
  subst hn
  rw [List.getElem?_eq_getElem hj, Option.some_inj] at hx
  unfold Arc.vs at hx
  simp [T5a, bxF, c5_b1, hj, hx, wj, kr, kn, tr, tn, h1, h2]
theorem s5bL (es : List (List V)) (va vr : V) (n j : Nat) (a : Nd) (hn : es.length = n) (hx : es[j]? = some a.vs) (hj : j < n) (hb : n ≤ 1000000000000000) (ta : va.tree = true) (tr : vr.tree = true) (h1 : ¬ 20 < a.bu) :
    kNext (tidy [1, 2, 3, 34, 35] 0) (execC call pu 0 k c5_b0 (T5b ins par loop va vr (.tsl 2 es) nn mm n j)) = some (T5b ins par loop va vr (.tsl 2 es) nn mm n (j + 1)) := by
  have wj : IntKind.i64.wrap ((j : Int) + 1) = (j : Int) + 1 := wrap64 (by omega) (by omega)
  have kr := V.cell_of_tree tr
  have ka := V.cell_of_tree ta
  subst hn
  rw [List.getElem?_eq_getElem hj, Option.some_inj] at hx
  unfold Nd.vs at hx
  simp [T5b, bxF, c5_b0, hj, hx, wj, kr, ka, tr, ta, h1]
end
theorem d5L (k : Nat) (f : Fl) (hf : f.Ok) (nn mm : Int) (hA : f.A.length ≤ 100000000000000) (hN : f.N.length ≤ 100000000000000) : RB (smallP f nn mm) (callF tbl pu (k + f.A.length + f.N.length + 10) 5 [f.v, .int .i64 nn, .int .i64 mm] []) := by
  obtain ⟨ins, par, loop, va, vr, vn, A, R, N⟩ := f
  obtain ⟨oa, or, on⟩ := hf
  simp only at oa or on hA hN
  have ta := oa.tree
  have tr := or.tree
  have tn := on.tree
  have ka := oa.cell
  have kr := or.cell
  have kn := on.cell
  have la := oa.len
  have lr := or.len
  have ln := on.len
  have sa := oa.lst
  have sr := or.lst
  have sn := on.lst
  rw [List.length_map] at la lr ln
  rw [show k + A.length + N.length + 10 = (k + A.length + N.length + 9) + 1 from rfl, callF_eq tbl5, Ytdgineiemjplhaa.c5]
  unfold Fl.v
  simp [execC_loop, -kIter_succ, -tidy, ka, kr, kn, kLen_lst, sa, la]
  have L1 := loop_all (pre := tidy [1, 2, 3, 11, 12] 0) (f := execC (callF tbl pu (k + A.length + N.length + 9)) pu 0 (k + A.length + N.length + 9) c5_b1) (fun j => T5a ins par loop va vr vn nn mm A.length j) (fun j => ∀ h : j < A.length, ¬ 60 < A[j].lat ∧ ¬ 20 < A[j].di) A.length 6
    (.exit 0, ⟨(T5a ins par loop va vr vn nn mm A.length A.length).fr.set 13 (.bool false), [bxF ins par loop va vr vn], false⟩)
    (by
      intro j hj hok
      have hj' : j < (A.map Arc.vs).length := by simpa using hj
      obtain rfl := oa.tsl hj'
      exact s5aL _ _ ins par loop nn mm _ vr vn _ j A[j] (by simp) (map_get hj') hj (by omega) tr tn (hok hj).1 (hok hj).2)
    (by
      intro j hj hok
      have hj' : j < (A.map Arc.vs).length := by simpa using hj
      obtain rfl := oa.tsl hj'
      exact r5a _ _ ins par loop nn mm _ vr vn _ j A[j] (by simp) (map_get hj') hj tr tn (fun h => hok fun _ => h))
    (by simp [T5a, c5_b1]) (by simp)
  rcases L1 with ⟨g1, h1⟩ | ⟨g1, s', e1, h1⟩
  · rw [h1 _ _ (by omega) (by simp [T5a, bxF, ka, kr, kn, ta, tr, tn])]
    simp [T5a, bxF, execC_loop, -kIter_succ, -tidy, ka, kr, kn, kLen_lst, sn, ln]
    have L2 := loop_all (pre := tidy [1, 2, 3, 34, 35] 0) (f := execC (callF tbl pu (k + A.length + N.length + 9)) pu 0 (k + A.length + N.length + 9) c5_b0) (fun j => T5b ins par loop va vr vn nn mm N.length j) (fun j => ∀ h : j < N.length, ¬ 20 < N[j].bu) N.length 6
      (.exit 2, ⟨(T5b ins par loop va vr vn nn mm N.length N.length).fr.set 36 (.bool false), [bxF ins par loop va vr vn], false⟩)
      (by
        intro j hj hok
        have hj' : j < (N.map Nd.vs).length := by simpa using hj
        obtain rfl := on.tsl hj'
        exact s5bL _ _ ins par loop nn mm _ va vr _ j N[j] (by simp) (map_get hj') hj (by omega) ta tr (hok hj))
      (by
        intro j hj hok
        have hj' : j < (N.map Nd.vs).length := by simpa using hj
        obtain rfl := on.tsl hj'
        exact r5b _ _ ins par loop nn mm _ va vr _ j N[j] (by simp) (map_get hj') hj ta tr (fun h => hok fun _ => h))
      (by simp [T5b, c5_b0]) (by simp)
    rcases L2 with ⟨g2, h2⟩ | ⟨g2, s', e1, h2⟩
    · rw [h2 _ _ (by omega) (by simp [T5b, bxF, ka, kr, kn, ta, tr, tn])]
      have G1 : ∀ a ∈ A, ¬ 60 < a.lat ∧ ¬ 20 < a.di := all_idx.mp fun j h => g1 j h h
      have G2 : ∀ a ∈ N, ¬ 20 < a.bu := all_idx.mp fun j h => g2 j h h
      clear h1 h2
      by_cases i1 : ins ≤ nn
      · by_cases i2 : par ≤ mm
        · by_cases i3 : A.length ≤ 90
          · have i3' : (A.length : Int) ≤ 90 := by omega
            by_cases i4 : R.length ≤ 6
            · have i4' : (R.length : Int) ≤ 6 := by omega
              simp [T5b, bxF, i1, i2, i3, i4, i3', i4', kLen_lst, sa, sr, la, lr]
              exact RB_true ⟨G1, G2, i1, i2, i3, i4⟩
            · have i4' : ¬ (R.length : Int) ≤ 6 := by omega
              simp [T5b, bxF, i1, i2, i3, i4, i3', i4', kLen_lst, sa, sr, la, lr]
              exact RB_false fun h => i4 h.2.2.2.2.2
          · have i3' : ¬ (A.length : Int) ≤ 90 := by omega
            simp [T5b, bxF, i1, i2, i3, i3', kLen_lst, sa, sr, la, lr]
            exact RB_false fun h => i3 h.2.2.2.2.1
        · simp [T5b, bxF, i1, i2, kLen_lst, sa, sr, la, lr]
          exact RB_false fun h => i2 h.2.2.2.1
      · simp [T5b, bxF, i1, kLen_lst, sa, sr, la, lr]
        exact RB_false fun h => i1 h.2.2.1
    · rw [h2 _ _ (by omega) (by simp [T5b, bxF, ka, kr, kn, ta, tr, tn])]
      simp only [kBlk_ret, kSeq_ret]
      exact RB_ret rfl e1 fun h => g2 fun j _ hj => h.2.1 _ (List.getElem_mem hj)
  · rw [h1 _ _ (by omega) (by simp [T5a, bxF, ka, kr, kn, ta, tr, tn])]
    simp only [kBlk_ret, kSeq_ret]
    exact RB_ret rfl e1 fun h => g1 fun j _ hj => h.1 _ (List.getElem_mem hj)
end Go.AM.Ytdgineiemjplhaa
