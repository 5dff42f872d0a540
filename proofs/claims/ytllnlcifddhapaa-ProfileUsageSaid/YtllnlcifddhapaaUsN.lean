/- What the program and the reference tell of the use of resources. -/
import Derived.Test.YtllnlcifddhapaaUsM
import Derived.Test.YtllnlcifddhapaaUsK
set_option linter.unusedVariables false
set_option linter.unusedSimpArgs false
namespace Go.AM.Ytllnlcifddhapaa
open Go Go.AM
set_option maxRecDepth 100000
set_option maxHeartbeats 0
def rsAt (R : List Rs) (v : Nat) : Rs := (R[v]?).getD ⟨0, 0, 0, 0⟩
theorem rsAt_get {R : List Rs} {v : Nat} (h : v < R.length) : (R.map Rs.vs)[v]? = some (rsAt R v).vs := by
  simp [rsAt, h]
theorem rsAt_mem {R : List Rs} {v : Nat} (h : v < R.length) : rsAt R v ∈ R := by
  simp [rsAt, h]
def rows (g : Nat → List V) : Nat → List (List V)
  | 0 => []
  | j + 1 => rows g j ++ [g j]
theorem rows_len (g : Nat → List V) : ∀ j, (rows g j).length = j
  | 0 => rfl
  | j + 1 => by simp [rows, rows_len g j]
theorem rows_get (g : Nat → List V) : ∀ j i, i < j → (rows g j)[i]? = some (g i)
  | j + 1, i, h => by
    simp only [rows]
    rcases Nat.lt_or_eq_of_le (Nat.le_of_lt_succ h) with h | rfl
    · rw [List.getElem?_append_left (by rw [rows_len]; exact h)]; exact rows_get g j i h
    · rw [List.getElem?_append_right (by rw [rows_len]; exact Nat.le_refl _), rows_len]; simp
theorem rows_set (g g' : Nat → List V) (j i : Nat) (hi : i < j) (h1 : g' i = g' i) (h : ∀ k, k < j → k ≠ i → g' k = g k) : (rows g j).set i (g' i) = rows g' j := by
  apply List.ext_getElem?
  intro k
  rw [List.getElem?_set, rows_len]
  by_cases hk : k < j
  · rw [rows_get g' j k hk]
    by_cases e : i = k
    · subst e; simp [hk]
    · rw [if_neg e, rows_get g j k hk, h k hk (fun h => e h.symm)]
  · have e1 : (rows g j)[k]? = none := List.getElem?_eq_none (by rw [rows_len]; omega)
    have e2 : (rows g' j)[k]? = none := List.getElem?_eq_none (by rw [rows_len]; omega)
    have e3 : ¬ i = k := by omega
    rw [e1, e2, if_neg e3]
theorem rows_congr (g g' : Nat → List V) : ∀ j, (∀ k, k < j → g' k = g k) → rows g j = rows g' j
  | 0, _ => rfl
  | j + 1, h => by simp only [rows]; rw [rows_congr g g' j fun k hk => h k (by omega), h j (by omega)]
/-- a list of rows: nil, or a block -/
def oVr (b : Nat) (j : Nat) : V := if j = 0 then .nils else .sl 2 b j 0 j
def oHr (g : Nat → List V) (j : Nat) : Heap := if j = 0 then [] else [⟨2, rows g j, 0, false, true⟩]
theorem d8 (K : Nat) (f : Fl) (hf : f.Ok) (s : Sc) (hs : s.Ok) (hR : f.R.length ≤ 100) (hN : f.N.length ≤ 10000) (hb : ∀ x ∈ f.N, 0 ≤ x.bu ∧ x.bu ≤ 256) (hct : ∀ r ∈ f.R, 1 ≤ r.ct ∧ r.ct ≤ 1024) (hl : 0 ≤ lenI f.loop s.ii s.dep ∧ lenI f.loop s.ii s.dep ≤ 4096) (hK : 10002 ≤ K) :
    ∃ d, callF tbl pu (K + 2) 8 [f.v, s.v] [] = some (oVr 0 f.R.length, oHr (fun r => row (sumN f.N r f.N.length) ((rsAt f.R r).ct * lenI f.loop s.ii s.dep)) f.R.length, d) := by
  have h13 := fun r : Int => d13 K f hf r hN hb (by omega)
  obtain ⟨ins, par, loop, va, vr, vn, A, R, N⟩ := f
  obtain ⟨ii, dep, vs, vp, vu, S, P, U⟩ := s
  obtain ⟨oa, or, on⟩ := hf
  obtain ⟨os, op, ou⟩ := hs
  simp only at oa or on os op ou hR hN
  have ta := oa.tree
  have tr := or.tree
  have tn := on.tree
  have ts := os.tree
  have tp := op.tree
  have tu := ou.tree
  have ka := V.cell_of_tree ta
  have kr := V.cell_of_tree tr
  have kn := V.cell_of_tree tn
  have ks := V.cell_of_tree ts
  have kp := V.cell_of_tree tp
  have ku := V.cell_of_tree tu
  have lr := or.len
  have sr := or.lst
  have ln := on.len
  have sn := on.lst
  rw [List.length_map] at lr ln
  simp only at hb hct hl h13
  unfold Fl.v Sc.v at *
  simp only at h13
  refine ⟨1 < R.length, ?_⟩
  rw [callF_eq tbl8, Ytllnlcifddhapaa.c8]
  simp [execC_loop, -kIter_succ, -tidy, ka, kr, kn, ks, kp, ku, ta, tr, tn, ts, tp, tu, kLen_lst, sr, lr]
  generalize hg : (fun r : Nat => row (sumN N r N.length) ((rsAt R r).ct * lenI loop ii dep)) = g
  have hbk : ∀ j, j < R.length → IntKind.i64.wrap ((rsAt R j).ct * lenI loop ii dep) = (rsAt R j).ct * lenI loop ii dep := by
    intro j hj
    have h1 := hct _ (rsAt_mem hj)
    have h2 : (rsAt R j).ct * lenI loop ii dep ≤ 1024 * 4096 := Int.mul_le_mul h1.2 hl.2 hl.1 (by omega)
    have h3 : 0 ≤ (rsAt R j).ct * lenI loop ii dep := Int.mul_nonneg (by omega) hl.1
    exact wrap64 (by omega) (by omega)
  rw [iter_to (fun j => T8 ins par loop va vr vn ii dep vs vp vu (oVr 2 j) (oHr g j) R.length j (1 < j)) R.length
    (r := (.exit 0, ⟨(T8 ins par loop va vr vn ii dep vs vp vu (oVr 2 R.length) (oHr g R.length) R.length R.length (1 < R.length)).fr.set 14 (.bool false), (T8 ins par loop va vr vn ii dep vs vp vu (oVr 2 R.length) (oHr g R.length) R.length R.length (1 < R.length)).H, 1 < R.length⟩)) ?h0 (by omega) ?hs ?he (by simp)]
  case h0 => simp [T8, bxF, bxS, oVr, oHr, ka, kr, kn, ks, kp, ku, ta, tr, tn, ts, tp, tu]
  case he => simp [T8, c8_b0]
  case hs =>
    intro j hj
    have hj' : j < (R.map Rs.vs).length := by simpa using hj
    have e := or.tsl hj'
    subst e
    by_cases h0 : j = 0
    · have := s8a (K + 1) ins par loop va vn ii dep vs vp vu (R.map Rs.vs) R.length j (rsAt R j) _ _ false (by simp) (rsAt_get hj) hj (by omega) ta tn ts tp tu (hbk j hj) (h13 j) h0
      subst h0
      simpa [oVr, oHr, rows, ← hg] using this
    · have := s8b (K + 1) ins par loop va vn ii dep vs vp vu (R.map Rs.vs) R.length j (rsAt R j) _ _ (decide (1 < j)) (by simp) (rsAt_get hj) hj (by omega) ta tn ts tp tu (hbk j hj) (h13 j) (rows g j) (rows g (j + 1)) (rows_len g j) (by rw [← hg]; rfl)
      have h1 : (1 < j + 1) = True := by simp; omega
      simp only [oVr, oHr, if_neg h0, if_neg (Nat.succ_ne_zero j), h1]
      rw [this]
      simp
  by_cases h0 : R.length = 0
  · simp [T8, oVr, oHr, h0]
  · simp [T8, oVr, oHr, h0]
end Go.AM.Ytllnlcifddhapaa
