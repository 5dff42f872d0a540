/- Contract: the digits of a number. -/
import Derived.Test.YtcfijihoepkgeaaChoB
set_option linter.unusedVariables false
set_option linter.unusedSimpArgs false
namespace Go.AM.Ytcfijihoepkgeaa
open Go Go.AM
set_option maxRecDepth 100000
set_option maxHeartbeats 0
/-- the state at the head of the loop -/
def D23 (a0 a1 a2 a3 a4 n : Nat) (x0 x1 x2 x3 x4 j : Nat) (d : Bool) : St :=
  ⟨[.undef, .undef, .ptr 0 1 0 0, .undef, .ptr 1 1 0 0, .ptr 2 1 0 0, .undef, .int .i64 n, .int .i64 j, .undef, .undef, .undef, .undef, .undef, .undef, .undef, .undef, .undef, .undef, .undef, .undef, .undef, .undef, .undef, .undef, .undef, .undef, .undef, .undef, .undef, .undef, .undef, .undef, .undef, .undef, .undef, .undef],
   [⟨5, [[.int .i64 a0, .int .i64 a1, .int .i64 a2, .int .i64 a3, .int .i64 a4]], 0, true, true⟩, ⟨5, [[.int .i64 0, .int .i64 0, .int .i64 0, .int .i64 0, .int .i64 0]], 0, true, true⟩, ⟨5, [[.int .i64 x0, .int .i64 x1, .int .i64 x2, .int .i64 x3, .int .i64 x4]], 0, true, true⟩], d⟩
structure Dg where
  x0 : Nat
  x1 : Nat
  x2 : Nat
  x3 : Nat
  x4 : Nat
def Dg.st (a0 a1 a2 a3 a4 n : Nat) (x : Dg) (j : Nat) (d : Bool) : St := D23 a0 a1 a2 a3 a4 n x.x0 x.x1 x.x2 x.x3 x.x4 j d
/-- the number j in a mixed base -/
def dg (a1 a2 a3 a4 j : Nat) : Dg := ⟨j / a4 / a3 / a2 / a1, j / a4 / a3 / a2 % a1, j / a4 / a3 % a2, j / a4 % a3, j % a4⟩
theorem carry0 {q l : Nat} (hl : 0 < l) (h : q % l + 1 ≠ l) : (q + 1) % l = q % l + 1 ∧ (q + 1) / l = q / l := by
  have hlt := Nat.mod_lt q hl
  have e := Nat.div_add_mod q l
  have e1 : q + 1 = (q % l + 1) + l * (q / l) := by omega
  rw [e1, Nat.add_mul_mod_self_left, Nat.add_mul_div_left _ _ hl, Nat.mod_eq_of_lt (by omega), Nat.div_eq_of_lt (by omega)]
  simp
theorem carry1 {q l : Nat} (hl : 0 < l) (h : q % l + 1 = l) : (q + 1) % l = 0 ∧ (q + 1) / l = q / l + 1 := by
  have e := Nat.div_add_mod q l
  have e1 : q + 1 = l * (q / l + 1) := by rw [Nat.mul_add]; omega
  rw [e1, Nat.mul_mod_right, Nat.mul_div_cancel_left _ hl]
  simp
theorem s23 (call : CallT) (k : Nat) (a0 a1 a2 a3 a4 n j : Nat) (d : Bool) (hj : j < n) (hn : n ≤ 100000) (h1 : 0 < a1) (h2 : 0 < a2) (h3 : 0 < a3) (h4 : 0 < a4) :
    kNext (tidy [2, 4, 5, 7, 8] 0) (execC call pu 0 (k + 8) c23_b1 (Dg.st a0 a1 a2 a3 a4 n (dg a1 a2 a3 a4 j) j d)) = some (Dg.st a0 a1 a2 a3 a4 n (dg a1 a2 a3 a4 (j + 1)) (j + 1) true) := by
  have wj : IntKind.i64.wrap ((j : Int) + 1) = (j : Int) + 1 := wrap64 (by omega) (by omega)
  have hj' : (j : Int) < n := by omega
  have b4 : j % a4 ≤ j := Nat.mod_le _ _
  have q4 : j / a4 ≤ j := Nat.div_le_self _ _
  have b3 : j / a4 % a3 ≤ j / a4 := Nat.mod_le _ _
  have q3 : j / a4 / a3 ≤ j / a4 := Nat.div_le_self _ _
  have b2 : j / a4 / a3 % a2 ≤ j / a4 / a3 := Nat.mod_le _ _
  have q2 : j / a4 / a3 / a2 ≤ j / a4 / a3 := Nat.div_le_self _ _
  have b1 : j / a4 / a3 / a2 % a1 ≤ j / a4 / a3 / a2 := Nat.mod_le _ _
  have q1 : j / a4 / a3 / a2 / a1 ≤ j / a4 / a3 / a2 := Nat.div_le_self _ _
  unfold Dg.st dg
  by_cases c4 : j % a4 + 1 = a4
  · obtain ⟨e4, f4⟩ := carry1 h4 c4
    by_cases c3 : j / a4 % a3 + 1 = a3
    · obtain ⟨e3, f3⟩ := carry1 h3 c3
      by_cases c2 : j / a4 / a3 % a2 + 1 = a2
      · obtain ⟨e2, f2⟩ := carry1 h2 c2
        by_cases c1 : j / a4 / a3 / a2 % a1 + 1 = a1
        · obtain ⟨e1, f1⟩ := carry1 h1 c1
          rw [e4, f4, e3, f3, e2, f2, e1, f1]
          generalize j % a4 = x4 at *
          generalize j / a4 = y4 at *
          generalize y4 % a3 = x3 at *
          generalize y4 / a3 = y3 at *
          generalize y3 % a2 = x2 at *
          generalize y3 / a2 = y2 at *
          generalize y2 % a1 = x1 at *
          generalize y2 / a1 = x0 at *
          have g4 : (x4 : Int) + 1 = a4 := by omega
          have w4 : IntKind.i64.wrap (a4 : Int) = (a4 : Int) := wrap64 (by omega) (by omega)
          have g3 : (x3 : Int) + 1 = a3 := by omega
          have w3 : IntKind.i64.wrap (a3 : Int) = (a3 : Int) := wrap64 (by omega) (by omega)
          have g2 : (x2 : Int) + 1 = a2 := by omega
          have w2 : IntKind.i64.wrap (a2 : Int) = (a2 : Int) := wrap64 (by omega) (by omega)
          have g1 : (x1 : Int) + 1 = a1 := by omega
          have w1 : IntKind.i64.wrap (a1 : Int) = (a1 : Int) := wrap64 (by omega) (by omega)
          have w0 : IntKind.i64.wrap ((x0 : Int) + 1) = (x0 : Int) + 1 := wrap64 (by omega) (by omega)
          clear c4 c3 c2 c1 e1 e2 e3 e4 f1 f2 f3 f4
          by_cases g0 : (x0 : Int) + 1 = a0
          · have w0' : IntKind.i64.wrap (a0 : Int) = (a0 : Int) := by rw [← g0]; exact w0
            simp [D23, c23_b1, execC_loop, c23_b0, c23_r0, c23_a0, wj, hj', g4, w4, g3, w3, g2, w2, g1, w1, g0, w0']
          · simp [D23, c23_b1, execC_loop, c23_b0, c23_r0, c23_a0, wj, hj', g4, w4, g3, w3, g2, w2, g1, w1, g0, w0]
        · obtain ⟨e1, f1⟩ := carry0 h1 c1
          rw [e4, f4, e3, f3, e2, f2, e1, f1]
          generalize j % a4 = x4 at *
          generalize j / a4 = y4 at *
          generalize y4 % a3 = x3 at *
          generalize y4 / a3 = y3 at *
          generalize y3 % a2 = x2 at *
          generalize y3 / a2 = y2 at *
          generalize y2 % a1 = x1 at *
          generalize y2 / a1 = x0 at *
          have g4 : (x4 : Int) + 1 = a4 := by omega
          have w4 : IntKind.i64.wrap (a4 : Int) = (a4 : Int) := wrap64 (by omega) (by omega)
          have g3 : (x3 : Int) + 1 = a3 := by omega
          have w3 : IntKind.i64.wrap (a3 : Int) = (a3 : Int) := wrap64 (by omega) (by omega)
          have g2 : (x2 : Int) + 1 = a2 := by omega
          have w2 : IntKind.i64.wrap (a2 : Int) = (a2 : Int) := wrap64 (by omega) (by omega)
          have g1 : ¬ ((x1 : Int) + 1 = a1) := by omega
          have w1 : IntKind.i64.wrap ((x1 : Int) + 1) = (x1 : Int) + 1 := wrap64 (by omega) (by omega)
          clear c4 c3 c2 c1 e4 f4 e3 f3 e2 f2 e1 f1
          simp [D23, c23_b1, execC_loop, c23_b0, c23_r0, c23_a0, wj, hj', g4, w4, g3, w3, g2, w2, g1, w1]
      · obtain ⟨e2, f2⟩ := carry0 h2 c2
        rw [e4, f4, e3, f3, e2, f2]
        generalize j % a4 = x4 at *
        generalize j / a4 = y4 at *
        generalize y4 % a3 = x3 at *
        generalize y4 / a3 = y3 at *
        generalize y3 % a2 = x2 at *
        generalize y3 / a2 = y2 at *
        generalize y2 % a1 = x1 at *
        generalize y2 / a1 = x0 at *
        have g4 : (x4 : Int) + 1 = a4 := by omega
        have w4 : IntKind.i64.wrap (a4 : Int) = (a4 : Int) := wrap64 (by omega) (by omega)
        have g3 : (x3 : Int) + 1 = a3 := by omega
        have w3 : IntKind.i64.wrap (a3 : Int) = (a3 : Int) := wrap64 (by omega) (by omega)
        have g2 : ¬ ((x2 : Int) + 1 = a2) := by omega
        have w2 : IntKind.i64.wrap ((x2 : Int) + 1) = (x2 : Int) + 1 := wrap64 (by omega) (by omega)
        clear c4 c3 c2 e4 f4 e3 f3 e2 f2
        simp [D23, c23_b1, execC_loop, c23_b0, c23_r0, c23_a0, wj, hj', g4, w4, g3, w3, g2, w2]
    · obtain ⟨e3, f3⟩ := carry0 h3 c3
      rw [e4, f4, e3, f3]
      generalize j % a4 = x4 at *
      generalize j / a4 = y4 at *
      generalize y4 % a3 = x3 at *
      generalize y4 / a3 = y3 at *
      generalize y3 % a2 = x2 at *
      generalize y3 / a2 = y2 at *
      generalize y2 % a1 = x1 at *
      generalize y2 / a1 = x0 at *
      have g4 : (x4 : Int) + 1 = a4 := by omega
      have w4 : IntKind.i64.wrap (a4 : Int) = (a4 : Int) := wrap64 (by omega) (by omega)
      have g3 : ¬ ((x3 : Int) + 1 = a3) := by omega
      have w3 : IntKind.i64.wrap ((x3 : Int) + 1) = (x3 : Int) + 1 := wrap64 (by omega) (by omega)
      clear c4 c3 e4 f4 e3 f3
      simp [D23, c23_b1, execC_loop, c23_b0, c23_r0, c23_a0, wj, hj', g4, w4, g3, w3]
  · obtain ⟨e4, f4⟩ := carry0 h4 c4
    rw [e4, f4]
    generalize j % a4 = x4 at *
    generalize j / a4 = y4 at *
    generalize y4 % a3 = x3 at *
    generalize y4 / a3 = y3 at *
    generalize y3 % a2 = x2 at *
    generalize y3 / a2 = y2 at *
    generalize y2 % a1 = x1 at *
    generalize y2 / a1 = x0 at *
    have g4 : ¬ ((x4 : Int) + 1 = a4) := by omega
    have w4 : IntKind.i64.wrap ((x4 : Int) + 1) = (x4 : Int) + 1 := wrap64 (by omega) (by omega)
    clear c4 e4 f4
    simp [D23, c23_b1, execC_loop, c23_b0, c23_r0, c23_a0, wj, hj', g4, w4]
theorem d23 (k : Nat) (a0 a1 a2 a3 a4 n : Nat) (hn : n ≤ 100000) (h1 : 0 < a1) (h2 : 0 < a2) (h3 : 0 < a3) (h4 : 0 < a4) : ∃ d, callF tbl pu (k + n + 10) 23 [.agg [.int .i64 a0, .int .i64 a1, .int .i64 a2, .int .i64 a3, .int .i64 a4], .int .i64 n] [] =
    some (.agg [.int .i64 (n / a4 / a3 / a2 / a1 : Nat), .int .i64 (n / a4 / a3 / a2 % a1 : Nat), .int .i64 (n / a4 / a3 % a2 : Nat), .int .i64 (n / a4 % a3 : Nat), .int .i64 (n % a4 : Nat)], [], d) := by
  refine ⟨true, ?_⟩
  rw [show k + n + 10 = (k + n + 9) + 1 from rfl, callF_eq tbl23, Ytcfijihoepkgeaa.c23]
  simp [execC_loop, -kIter_succ]
  rw [iter_to (fun j => Dg.st a0 a1 a2 a3 a4 n (dg a1 a2 a3 a4 j) j (j != 0)) n (r := (.exit 0, ⟨(Dg.st a0 a1 a2 a3 a4 n (dg a1 a2 a3 a4 n) n true).fr.set 9 (.bool false), (Dg.st a0 a1 a2 a3 a4 n (dg a1 a2 a3 a4 n) n true).H, n != 0⟩)) ?h0 (by omega) ?hs ?he (by simp)]
  case h0 => simp [Dg.st, D23, dg]
  case hs =>
    intro j hj
    exact s23 _ (k + n + 1) a0 a1 a2 a3 a4 n j _ hj hn h1 h2 h3 h4
  case he => simp [Dg.st, D23, c23_b1]
  simp [Dg.st, D23, dg]
end Go.AM.Ytcfijihoepkgeaa
