/- Contracts: the lengths of a space's lists, the number of its combinations. -/
import Derived.Test.YtcfijihoepkgeaaAmTy
import Derived.Test.YtcfijihoepkgeaaAmPu
set_option linter.unusedVariables false
set_option linter.unusedSimpArgs false
namespace Go.AM.Ytcfijihoepkgeaa
open Go Go.AM
set_option maxRecDepth 100000
set_option maxHeartbeats 0
structure Sp (l0 l1 l2 l3 l4 : V) : Prop where
  t0 : l0.tree = true
  t1 : l1.tree = true
  t2 : l2.tree = true
  t3 : l3.tree = true
  t4 : l4.tree = true
  c0 : l0.lst = true
  c1 : l1.lst = true
  c2 : l2.lst = true
  c3 : l3.lst = true
  c4 : l4.lst = true
theorem d39 (k : Nat) (l0 l1 l2 l3 l4 : V) (m : Int) (h : Sp l0 l1 l2 l3 l4) : callF tbl pu (k + 1) 39 [.agg [l0, l1, l2, l3, l4, .int .i64 m]] [] =
    some (.sl 1 0 5 0 5, [{ z := 1, es := [[.int .i64 (lenV l4)], [.int .i64 (lenV l3)], [.int .i64 (lenV l2)], [.int .i64 (lenV l1)], [.int .i64 (lenV l0)]], fz := 0, box := false, flat := true }], false) := by
  obtain ⟨t0, t1, t2, t3, t4, c0, c1, c2, c3, c4⟩ := h
  have k0 := V.cell_of_tree t0
  have k1 := V.cell_of_tree t1
  have k2 := V.cell_of_tree t2
  have k3 := V.cell_of_tree t3
  have k4 := V.cell_of_tree t4
  rw [callF_eq tbl39, Ytcfijihoepkgeaa.c39]
  simp [kLen_lst, *]
theorem d20 (k : Nat) (l0 l1 l2 l3 l4 : V) (m : Int) (h : Sp l0 l1 l2 l3 l4) : callF tbl pu (k + 1) 20 [.agg [l0, l1, l2, l3, l4, .int .i64 m]] [] =
    some (.agg [.int .i64 (lenV l0), .int .i64 (lenV l1), .int .i64 (lenV l2), .int .i64 (lenV l3), .int .i64 (lenV l4)], [], true) := by
  obtain ⟨t0, t1, t2, t3, t4, c0, c1, c2, c3, c4⟩ := h
  have k0 := V.cell_of_tree t0
  have k1 := V.cell_of_tree t1
  have k2 := V.cell_of_tree t2
  have k3 := V.cell_of_tree t3
  have k4 := V.cell_of_tree t4
  rw [callF_eq tbl20, Ytcfijihoepkgeaa.c20]
  simp [kLen_lst, *]
theorem p39 : pu 39 = true := by decide
theorem p20 : pu 20 = true := by decide
theorem d18 (k : Nat) (l0 l1 l2 l3 l4 : V) (m : Int) (h : Sp l0 l1 l2 l3 l4) : ∃ d, callF tbl pu (k + 10) 18 [.agg [l0, l1, l2, l3, l4, .int .i64 m]] [] =
    some (.bool (decide (lenV l0 ≤ 300) && decide (lenV l1 ≤ 300) && decide (lenV l2 ≤ 300) && decide (lenV l3 ≤ 300) && decide (lenV l4 ≤ 300)), [], d) := by
  obtain ⟨t0, t1, t2, t3, t4, c0, c1, c2, c3, c4⟩ := h
  have k0 := V.cell_of_tree t0
  have k1 := V.cell_of_tree t1
  have k2 := V.cell_of_tree t2
  have k3 := V.cell_of_tree t3
  have k4 := V.cell_of_tree t4
  refine ⟨true, ?_⟩
  rw [callF_eq tbl18, Ytcfijihoepkgeaa.c18]
  have e20 := fun k => d20 k l0 l1 l2 l3 l4 m ⟨t0, t1, t2, t3, t4, c0, c1, c2, c3, c4⟩
  by_cases h0 : lenV l0 ≤ 300
  · by_cases h1 : lenV l1 ≤ 300
    · by_cases h2 : lenV l2 ≤ 300
      · by_cases h3 : lenV l3 ≤ 300
        · by_cases h4 : lenV l4 ≤ 300
          · have g0 : ¬ (300 : Int) < lenV l0 := by omega
            have g1 : ¬ (300 : Int) < lenV l1 := by omega
            have g2 : ¬ (300 : Int) < lenV l2 := by omega
            have g3 : ¬ (300 : Int) < lenV l3 := by omega
            have g4 : ¬ (300 : Int) < lenV l4 := by omega
            simp [callV_pure, p20, execC_loop, c18_b0, *]
          · have g0 : ¬ (300 : Int) < lenV l0 := by omega
            have g1 : ¬ (300 : Int) < lenV l1 := by omega
            have g2 : ¬ (300 : Int) < lenV l2 := by omega
            have g3 : ¬ (300 : Int) < lenV l3 := by omega
            have g4 : (300 : Int) < lenV l4 := by omega
            simp [callV_pure, p20, execC_loop, c18_b0, *]
        · have g0 : ¬ (300 : Int) < lenV l0 := by omega
          have g1 : ¬ (300 : Int) < lenV l1 := by omega
          have g2 : ¬ (300 : Int) < lenV l2 := by omega
          have g3 : (300 : Int) < lenV l3 := by omega
          simp [callV_pure, p20, execC_loop, c18_b0, *]
      · have g0 : ¬ (300 : Int) < lenV l0 := by omega
        have g1 : ¬ (300 : Int) < lenV l1 := by omega
        have g2 : (300 : Int) < lenV l2 := by omega
        simp [callV_pure, p20, execC_loop, c18_b0, *]
    · have g0 : ¬ (300 : Int) < lenV l0 := by omega
      have g1 : (300 : Int) < lenV l1 := by omega
      simp [callV_pure, p20, execC_loop, c18_b0, *]
  · have g0 : (300 : Int) < lenV l0 := by omega
    simp [callV_pure, p20, execC_loop, c18_b0, *]
def stepL (m n l : Int) : Int := imin (IntKind.i64.wrap (n * imin l m)) m
theorem d19 (k : Nat) (a0 a1 a2 a3 a4 m : Int) : ∃ d, callF tbl pu (k + 10) 19 [.agg [.int .i64 a0, .int .i64 a1, .int .i64 a2, .int .i64 a3, .int .i64 a4], .int .i64 m] [] =
    some (.int .i64 (stepL m (stepL m (stepL m (stepL m (stepL m 1 a0) a1) a2) a3) a4), [], d) := by
  refine ⟨false, ?_⟩
  rw [callF_eq tbl19, Ytcfijihoepkgeaa.c19]
  simp [execC_loop, c19_b0, stepL]
theorem d22 (k : Nat) (l0 l1 l2 l3 l4 : V) (m : Int) (h : Sp l0 l1 l2 l3 l4) : ∃ d, callF tbl pu (k + 10) 22 [.agg [l0, l1, l2, l3, l4, .int .i64 m]] [] =
    some (.int .i64 (if lenV l4 = 0 ∨ lenV l3 = 0 ∨ lenV l2 = 0 ∨ lenV l1 = 0 ∨ lenV l0 = 0 then 0 else stepL 257 (stepL 257 (stepL 257 (stepL 257 (stepL 257 1 (lenV l4)) (lenV l3)) (lenV l2)) (lenV l1)) (lenV l0)), [], d) := by
  have e39 := fun k => d39 k l0 l1 l2 l3 l4 m h
  obtain ⟨t0, t1, t2, t3, t4, c0, c1, c2, c3, c4⟩ := h
  have k0 := V.cell_of_tree t0
  have k1 := V.cell_of_tree t1
  have k2 := V.cell_of_tree t2
  have k3 := V.cell_of_tree t3
  have k4 := V.cell_of_tree t4
  refine ⟨false, ?_⟩
  rw [callF_eq tbl22, Ytcfijihoepkgeaa.c22]
  by_cases h4 : lenV l4 = 0
  · simp [callV_pure, p39, execC_loop, c22_b0, *]
  · by_cases h3 : lenV l3 = 0
    · simp [callV_pure, p39, execC_loop, c22_b0, *]
    · by_cases h2 : lenV l2 = 0
      · simp [callV_pure, p39, execC_loop, c22_b0, *]
      · by_cases h1 : lenV l1 = 0
        · simp [callV_pure, p39, execC_loop, c22_b0, *]
        · by_cases h0 : lenV l0 = 0
          · simp [callV_pure, p39, execC_loop, c22_b0, *]
          · simp [callV_pure, p39, execC_loop, c22_b0, stepL, *]
end Go.AM.Ytcfijihoepkgeaa
