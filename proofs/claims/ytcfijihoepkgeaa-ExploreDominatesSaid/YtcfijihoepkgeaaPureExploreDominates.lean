/- The law ExploreDominates over the executor: no conditions beyond the arguments' types. -/
import Derived.Test.YtcfijihoepkgeaaSayExploreDominates
set_option linter.unusedVariables false
set_option linter.unusedSimpArgs false
namespace Go.AM.Ytcfijihoepkgeaa
open Go Go.AM
set_option maxRecDepth 100000
set_option maxHeartbeats 0
theorem d10 (k : Nat) (a0 a1 a2 a3 b0 b1 b2 b3 : Int) : callF tbl pu (k + 1) 10 [.agg [.int .i64 a0, .int .i64 a1, .int .i64 a2, .int .i64 a3], .agg [.int .i64 b0, .int .i64 b1, .int .i64 b2, .int .i64 b3]] [] = some (.bool (decide (a1 ≤ b1) && decide (a2 ≤ b2) && decide (a3 ≤ b3) && (decide (a1 < b1) || decide (a2 < b2) || decide (a3 < b3))), [], false) := by
  rw [callF_eq tbl10, c10]
  by_cases h1 : a1 ≤ b1
  · by_cases h2 : a2 ≤ b2
    · by_cases h3 : a3 ≤ b3
      · by_cases h4 : a1 < b1
        · simp [*]
        · by_cases h5 : a2 < b2
          · simp [*]
          · by_cases h6 : a3 < b3 <;> simp [*]
      · simp [*]
    · simp [*]
  · simp [*]
theorem d27 (k : Nat) (a0 a1 a2 a3 b0 b1 b2 b3 : Int) : callF tbl pu (k + 1) 27 [.agg [.int .i64 a0, .int .i64 a1, .int .i64 a2, .int .i64 a3], .agg [.int .i64 b0, .int .i64 b1, .int .i64 b2, .int .i64 b3]] [] = some (.bool (if a1 ≠ b1 then decide (a1 < b1) else if a2 ≠ b2 then decide (a2 < b2) else decide (a3 < b3)), [], false) := by
  rw [callF_eq tbl27, c27]
  by_cases h1 : a1 = b1
  · by_cases h2 : a2 = b2 <;> simp [*]
  · simp [*]
theorem d15 (k : Nat) (a0 a1 a2 a3 b0 b1 b2 b3 : Int) : callF tbl pu (k + 1) 15 [.agg [.int .i64 a0, .int .i64 a1, .int .i64 a2, .int .i64 a3], .agg [.int .i64 b0, .int .i64 b1, .int .i64 b2, .int .i64 b3]] [] = some (.bool (decide (a1 = b1) && decide (a2 = b2) && decide (a3 = b3)), [], false) := by
  rw [callF_eq tbl15, c15]
  by_cases h1 : a1 = b1
  · by_cases h2 : a2 = b2 <;> simp [*]
  · simp [*]

theorem d11 (k : Nat) (a0 a1 a2 a3 b0 b1 b2 b3 : Int) : callF tbl pu (k + 2) 11 [.agg [.int .i64 a0, .int .i64 a1, .int .i64 a2, .int .i64 a3], .agg [.int .i64 b0, .int .i64 b1, .int .i64 b2, .int .i64 b3]] [] = some (.bool (decide (a1 ≤ b1) && decide (a2 ≤ b2) && decide (a3 ≤ b3) && (decide (a1 < b1) || decide (a2 < b2) || decide (a3 < b3))), [], false) := by
  rw [callF_eq tbl11, c11]
  have p27 : pu 27 = true := rfl
  have p15 : pu 15 = true := rfl
  by_cases h1 : a1 ≤ b1
  · by_cases h2 : a2 ≤ b2
    · by_cases h3 : a3 ≤ b3
      · by_cases h4 : a1 = b1
        · by_cases h5 : a2 = b2
          · by_cases h6 : a3 < b3
            · have h7 : ¬ a3 = b3 := by omega
              have h8 : ¬ a2 < b2 := by omega
              simp [h1, h2, h3, h4, h5, h6, h7, h8, p27, p15, d27, d15, callV_pure]
            · have h7 : a3 = b3 := by omega
              simp [h1, h2, h3, h4, h5, h6, h7, p27, p15, d27, d15, callV_pure]
          · have h7 : a2 < b2 := by omega
            simp [h1, h2, h3, h4, h5, h7, p27, p15, d27, d15, callV_pure]
        · have h7 : a1 < b1 := by omega
          simp [h1, h2, h3, h4, h7, p27, p15, d27, d15, callV_pure]
      · simp [*]
    · simp [*]
  · simp [*]

def dom (a1 a2 a3 b1 b2 b3 : Int) : Bool := decide (a1 ≤ b1) && decide (a2 ≤ b2) && decide (a3 ≤ b3) && (decide (a1 < b1) || decide (a2 < b2) || decide (a3 < b3))
theorem e10 (k : Nat) (a0 a1 a2 a3 b0 b1 b2 b3 : Int) : callF tbl pu (k + 1) 10 [.agg [.int .i64 a0, .int .i64 a1, .int .i64 a2, .int .i64 a3], .agg [.int .i64 b0, .int .i64 b1, .int .i64 b2, .int .i64 b3]] [] = some (.bool (dom a1 a2 a3 b1 b2 b3), [], false) := d10 ..
theorem e11 (k : Nat) (a0 a1 a2 a3 b0 b1 b2 b3 : Int) : callF tbl pu (k + 2) 11 [.agg [.int .i64 a0, .int .i64 a1, .int .i64 a2, .int .i64 a3], .agg [.int .i64 b0, .int .i64 b1, .int .i64 b2, .int .i64 b3]] [] = some (.bool (dom a1 a2 a3 b1 b2 b3), [], false) := d11 ..
theorem awake : callF tbl pu 40 9 [] [] = some (.bool true, [], true) := by kernel_rfl
theorem law3 (a0 a1 a2 a3 b0 b1 b2 b3 c0 c1 c2 c3 : Int) : ∃ d, callF tbl pu 41 3 [.agg [.int .i64 a0, .int .i64 a1, .int .i64 a2, .int .i64 a3], .agg [.int .i64 b0, .int .i64 b1, .int .i64 b2, .int .i64 b3], .agg [.int .i64 c0, .int .i64 c1, .int .i64 c2, .int .i64 c3]] [] = some (.bool true, [], d) := by
  refine ⟨false, ?_⟩
  rw [callF_eq tbl3, Ytcfijihoepkgeaa.c3]
  have p9 : pu 9 = true := rfl
  have p10 : pu 10 = true := rfl
  have p11 : pu 11 = true := rfl
  have haa : dom a1 a2 a3 a1 a2 a3 = false := by simp [dom]
  have e10' := fun a0 a1 a2 a3 b0 b1 b2 b3 => e10 39 a0 a1 a2 a3 b0 b1 b2 b3
  have e11' := fun a0 a1 a2 a3 b0 b1 b2 b3 => e11 38 a0 a1 a2 a3 b0 b1 b2 b3
  simp only [Nat.reduceAdd] at e10' e11'
  cases hab : dom a1 a2 a3 b1 b2 b3
  · simp [p9, p10, p11, awake, e10', e11', callV_pure, haa, hab]
  · cases hbc : dom b1 b2 b3 c1 c2 c3
    · simp [p9, p10, p11, awake, e10', e11', callV_pure, haa, hab, hbc]
    · have hac : dom a1 a2 a3 c1 c2 c3 = true := by simp [dom] at *; omega
      simp [p9, p10, p11, awake, e10', e11', callV_pure, haa, hab, hbc, hac]
theorem PureExploreDominates : SayExploreDominates := by
  rintro x0 x1 x2 ⟨vs0, rfl, h0⟩ ⟨vs1, rfl, h1⟩ ⟨vs2, rfl, h2⟩
  obtain ⟨a0, a1, a2, a3, rfl, _⟩ := flat23 h0
  obtain ⟨b0, b1, b2, b3, rfl, _⟩ := flat23 h1
  obtain ⟨e0, e1, e2, e3, rfl, _⟩ := flat23 h2
  obtain ⟨d, hd⟩ := law3 a0 a1 a2 a3 b0 b1 b2 b3 e0 e1 e2 e3
  exact ⟨41, [], d, hd⟩
end Go.AM.Ytcfijihoepkgeaa
