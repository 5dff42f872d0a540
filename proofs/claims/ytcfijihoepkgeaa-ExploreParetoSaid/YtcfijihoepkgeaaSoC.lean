/- The comparison of two points that sorts the Pareto set. -/
import Derived.Test.YtcfijihoepkgeaaSoB
set_option linter.unusedVariables false
set_option linter.unusedSimpArgs false
namespace Go.AM.Ytcfijihoepkgeaa
open Go Go.AM
set_option maxRecDepth 100000
set_option maxHeartbeats 0
def cmpI (a b : Int) : Int := if a < b then -1 else if b < a then 1 else 0
theorem p55 : pu 55 = true := by decide
theorem p36 : pu 36 = true := by decide
theorem p35 : pu 35 = true := by decide
theorem p34 : pu 34 = true := by decide
theorem d55 (k : Nat) (a : Int) : callF tbl pu (k + 1) 55 [.int .i64 a] [] = some (.bool false, [], false) := by
  rw [callF_eq tbl55, Ytcfijihoepkgeaa.c55]
  simp
theorem d36 (k : Nat) (a b : Int) : callF tbl pu (k + 2) 36 [.int .i64 a, .int .i64 b] [] = some (.int .i64 (cmpI a b), [], false) := by
  rw [callF_eq tbl36, Ytcfijihoepkgeaa.c36]
  have h := d55 k
  unfold cmpI
  by_cases h1 : a < b
  · simp [callV_pure, p55, h, h1]
  · by_cases h2 : b < a
    · simp [callV_pure, p55, h, h1, h2]
    · simp [callV_pure, p55, h, h1, h2]
def or3 (a b c : Int) : Int := if a = 0 then (if b = 0 then c else b) else a
theorem d35 (k : Nat) (a b c : Int) : callF tbl pu (k + 6) 35 [.tsl 1 [[.int .i64 a], [.int .i64 b], [.int .i64 c]]] [] = some (.int .i64 (or3 a b c), [], false) := by
  rw [callF_eq tbl35, Ytcfijihoepkgeaa.c35]
  unfold or3
  by_cases h1 : a = 0
  · by_cases h2 : b = 0
    · by_cases h3 : c = 0
      · simp [execC_loop, c35_b0, h1, h2, h3]
      · simp [execC_loop, c35_b0, h1, h2, h3]
    · simp [execC_loop, c35_b0, h1, h2]
  · simp [execC_loop, c35_b0, h1]
def cmp3 (p q : Pt) : Int := or3 (cmpI p.cy q.cy) (cmpI p.ii q.ii) (cmpI p.ar q.ar)
theorem d34 (k : Nat) (p q : Pt) : callF tbl pu (k + 7) 34 [.agg p.vs, .agg q.vs] [] = some (.int .i64 (cmp3 p q), [], false) := by
  rw [callF_eq tbl34, Ytcfijihoepkgeaa.c34]
  have h36 := fun a b => d36 (k + 4) a b
  have h35 := fun a b c => d35 k a b c
  unfold cmp3 Pt.vs
  simp [callV_pure, p36, p35, h36, h35, c34_r0, c34_a0]
/-- less by the three numbers -/
def ltP (p q : Pt) : Prop := p.cy < q.cy ∨ p.cy = q.cy ∧ (p.ii < q.ii ∨ p.ii = q.ii ∧ p.ar < q.ar)
theorem cmp3_neg (p q : Pt) : cmp3 p q < 0 ↔ ltP p q := by
  unfold cmp3 or3 cmpI ltP
  by_cases h1 : p.cy < q.cy
  · simp [h1]
  · by_cases h2 : q.cy < p.cy
    · simp [h1, h2]; omega
    · have e1 : p.cy = q.cy := by omega
      by_cases h3 : p.ii < q.ii
      · simp [h3, e1]
      · by_cases h4 : q.ii < p.ii
        · simp [e1, h3, h4]; omega
        · have e2 : p.ii = q.ii := by omega
          by_cases h5 : p.ar < q.ar
          · simp [e1, e2, h5]
          · by_cases h6 : q.ar < p.ar
            · simp [e1, e2, h5, h6]
            · simp [e1, e2, h5, h6]
instance (p q : Pt) : Decidable (ltP p q) := by unfold ltP; infer_instance
/-- not greater -/
def leP (p q : Pt) : Prop := ¬ ltP q p
theorem ltP_le {p q : Pt} (h : ltP p q) : leP p q := by unfold leP ltP at *; omega
theorem leP_refl (p : Pt) : leP p p := by unfold leP ltP; omega
theorem leP_trans {p q r : Pt} (h1 : leP p q) (h2 : leP q r) : leP p r := by unfold leP ltP at *; omega
theorem lt_le_trans {p q r : Pt} (h1 : ltP p q) (h2 : leP q r) : ltP p r := by unfold leP ltP at *; omega
theorem le_lt_trans {p q r : Pt} (h1 : leP p q) (h2 : ltP q r) : ltP p r := by unfold leP ltP at *; omega
/-- in order -/
abbrev Srt (l : List Pt) : Prop := l.Pairwise leP
end Go.AM.Ytcfijihoepkgeaa
