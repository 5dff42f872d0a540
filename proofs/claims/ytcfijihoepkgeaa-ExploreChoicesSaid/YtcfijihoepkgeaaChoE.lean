/- Contract: a combination of a space. -/
import Derived.Test.YtcfijihoepkgeaaChoD
set_option linter.unusedVariables false
set_option linter.unusedSimpArgs false
namespace Go.AM.Ytcfijihoepkgeaa
open Go Go.AM
set_option maxRecDepth 100000
set_option maxHeartbeats 0
theorem e22 (k : Nat) (l0 l1 l2 l3 l4 : V) (m : Int) (h : Sp l0 l1 l2 l3 l4) : ∃ d, callF tbl pu (k + 10) 22 [.agg [l0, l1, l2, l3, l4, .int .i64 m]] [] =
    some (.int .i64 (imin ((lenV l0 * lenV l1 * lenV l2 * lenV l3 * lenV l4 : Nat) : Int) 257), [], d) := by
  obtain ⟨d, hd⟩ := d22 k l0 l1 l2 l3 l4 m h
  refine ⟨d, ?_⟩
  rw [hd, sat5]
  have : (if lenV l4 = 0 ∨ lenV l3 = 0 ∨ lenV l2 = 0 ∨ lenV l1 = 0 ∨ lenV l0 = 0 then 0 else imin ((lenV l4 * lenV l3 * lenV l2 * lenV l1 * lenV l0 : Nat) : Int) 257) = imin ((lenV l0 * lenV l1 * lenV l2 * lenV l3 * lenV l4 : Nat) : Int) 257 := by
    split
    · rename_i h
      have : lenV l0 * lenV l1 * lenV l2 * lenV l3 * lenV l4 = 0 := by
        rcases h with h | h | h | h | h <;> simp [h]
      rw [this]
      rfl
    · congr 2
      rw [Nat.mul_comm (lenV l4 * lenV l3 * lenV l2 * lenV l1), Nat.mul_comm (lenV l4 * lenV l3 * lenV l2), Nat.mul_comm (lenV l4 * lenV l3), Nat.mul_comm (lenV l4)]
      simp only [Nat.mul_assoc]
  rw [this]
theorem e19 (k : Nat) (a0 a1 a2 a3 a4 : Nat) : ∃ d, callF tbl pu (k + 10) 19 [.agg [.int .i64 a0, .int .i64 a1, .int .i64 a2, .int .i64 a3, .int .i64 a4], .int .i64 257] [] =
    some (.int .i64 (imin ((a0 * a1 * a2 * a3 * a4 : Nat) : Int) 257), [], d) := by
  obtain ⟨d, hd⟩ := d19 k a0 a1 a2 a3 a4 257
  exact ⟨d, by rw [hd, sat5]⟩
theorem pos5 {N a b c d e : Nat} (h : N < a * b * c * d * e) : 0 < a ∧ 0 < b ∧ 0 < c ∧ 0 < d ∧ 0 < e := by
  refine ⟨?_, ?_, ?_, ?_, ?_⟩ <;> exact Nat.pos_of_ne_zero (by rintro rfl; simp at h)
theorem p22 : pu 22 = true := by decide
theorem e21n (k : Nat) (l0 l1 l2 l3 l4 : V) (m i : Int) (h : Sp l0 l1 l2 l3 l4) (hi : i < 0 ∨ imin ((lenV l0 * lenV l1 * lenV l2 * lenV l3 * lenV l4 : Nat) : Int) 257 ≤ i ∨ 256 < imin ((lenV l0 * lenV l1 * lenV l2 * lenV l3 * lenV l4 : Nat) : Int) 257) :
    ∃ d, callF tbl pu (k + 11) 21 [.agg [l0, l1, l2, l3, l4, .int .i64 m], .int .i64 i] [] = some (.tup [.agg [.int .i64 0, .nils, .int .i64 0, .int .i64 0], .int .i64 0, .int .i64 0, .int .i64 2], [], d) := by
  obtain ⟨d, hd⟩ := e22 k l0 l1 l2 l3 l4 m h
  obtain ⟨t0, t1, t2, t3, t4, c0, c1, c2, c3, c4⟩ := h
  have k0 := V.cell_of_tree t0
  have k1 := V.cell_of_tree t1
  have k2 := V.cell_of_tree t2
  have k3 := V.cell_of_tree t3
  have k4 := V.cell_of_tree t4
  refine ⟨true, ?_⟩
  rw [callF_eq tbl21, Ytcfijihoepkgeaa.c21]
  generalize imin ((lenV l0 * lenV l1 * lenV l2 * lenV l3 * lenV l4 : Nat) : Int) 257 = n at *
  by_cases h1 : i < 0
  · simp [callV_pure, p22, *]
  · by_cases h2 : n ≤ i
    · simp [callV_pure, p22, *]
    · have h3 : 256 < n := by omega
      simp [callV_pure, p22, *]
theorem e21 (k : Nat) (es0 es1 es2 es3 es4 : List (List V)) (m p pa iv fa : Int) (v : V) (N : Nat) (hN : N < es0.length * es1.length * es2.length * es3.length * es4.length) (hP : es0.length * es1.length * es2.length * es3.length * es4.length ≤ 256)
    (g4 : es4[N % es4.length]? = some [.int .i64 fa]) (g3 : es3[N / es4.length % es3.length]? = some [.int .i64 iv]) (g2 : es2[N / es4.length / es3.length % es2.length]? = some [v]) (g1 : es1[N / es4.length / es3.length / es2.length % es1.length]? = some [.int .i64 pa])
    (g0 : es0[N / es4.length / es3.length / es2.length / es1.length % es0.length]? = some [.int .i64 p]) (hv : v = .nils) :
    ∃ d, callF tbl pu (k + 12) 21 [.agg [.tsl 1 es0, .tsl 1 es1, .tsl 1 es2, .tsl 1 es3, .tsl 1 es4, .int .i64 m], .int .i64 N] [] = some (.tup [.agg [.int .i64 p, .nils, .int .i64 pa, .int .i64 m], .int .i64 iv, .int .i64 fa, .int .i64 0], [], d) := by
  have h : Sp (.tsl 1 es0) (.tsl 1 es1) (.tsl 1 es2) (.tsl 1 es3) (.tsl 1 es4) := by constructor <;> simp [V.lst]
  obtain ⟨d, hd⟩ := e22 (k + 1) (.tsl 1 es0) (.tsl 1 es1) (.tsl 1 es2) (.tsl 1 es3) (.tsl 1 es4) m h
  have e39 := fun k => d39 k (.tsl 1 es0) (.tsl 1 es1) (.tsl 1 es2) (.tsl 1 es3) (.tsl 1 es4) m h
  simp only [lenV] at hd e39
  obtain ⟨z0, z1, z2, z3, z4⟩ := pos5 hN
  have hs : imin ((es0.length * es1.length * es2.length * es3.length * es4.length : Nat) : Int) 257 = ((es0.length * es1.length * es2.length * es3.length * es4.length : Nat) : Int) := by unfold imin; rw [if_neg (by omega)]
  rw [hs] at hd
  generalize hQ : es0.length * es1.length * es2.length * es3.length * es4.length = Q at *
  generalize es0.length = n0 at *
  generalize es1.length = n1 at *
  generalize es2.length = n2 at *
  generalize es3.length = n3 at *
  generalize es4.length = n4 at *
  obtain ⟨r4, e4⟩ : ∃ r, N % n4 = r := ⟨_, rfl⟩
  obtain ⟨q4, f4⟩ : ∃ q, N / n4 = q := ⟨_, rfl⟩
  have t4 : Int.tmod (N : Int) (n4 : Int) = (r4 : Int) := by rw [← e4]; rfl
  have u4 : Int.tdiv (N : Int) (n4 : Int) = (q4 : Int) := by rw [← f4]; rfl
  have m4 : q4 ≤ N := by rw [← f4]; exact Nat.div_le_self _ _
  have v4 : IntKind.i64.wrap (q4 : Int) = (q4 : Int) := wrap64 (by omega) (by omega)
  have y4 : ¬ n4 = 0 := by omega
  rw [e4] at g4
  rw [f4] at g3 g2 g1 g0
  obtain ⟨r3, e3⟩ : ∃ r, q4 % n3 = r := ⟨_, rfl⟩
  obtain ⟨q3, f3⟩ : ∃ q, q4 / n3 = q := ⟨_, rfl⟩
  have t3 : Int.tmod (q4 : Int) (n3 : Int) = (r3 : Int) := by rw [← e3]; rfl
  have u3 : Int.tdiv (q4 : Int) (n3 : Int) = (q3 : Int) := by rw [← f3]; rfl
  have m3 : q3 ≤ q4 := by rw [← f3]; exact Nat.div_le_self _ _
  have v3 : IntKind.i64.wrap (q3 : Int) = (q3 : Int) := wrap64 (by omega) (by omega)
  have y3 : ¬ n3 = 0 := by omega
  rw [e3] at g3
  rw [f3] at g2 g1 g0
  obtain ⟨r2, e2⟩ : ∃ r, q3 % n2 = r := ⟨_, rfl⟩
  obtain ⟨q2, f2⟩ : ∃ q, q3 / n2 = q := ⟨_, rfl⟩
  have t2 : Int.tmod (q3 : Int) (n2 : Int) = (r2 : Int) := by rw [← e2]; rfl
  have u2 : Int.tdiv (q3 : Int) (n2 : Int) = (q2 : Int) := by rw [← f2]; rfl
  have m2 : q2 ≤ q3 := by rw [← f2]; exact Nat.div_le_self _ _
  have v2 : IntKind.i64.wrap (q2 : Int) = (q2 : Int) := wrap64 (by omega) (by omega)
  have y2 : ¬ n2 = 0 := by omega
  rw [e2] at g2
  rw [f2] at g1 g0
  obtain ⟨r1, e1⟩ : ∃ r, q2 % n1 = r := ⟨_, rfl⟩
  obtain ⟨q1, f1⟩ : ∃ q, q2 / n1 = q := ⟨_, rfl⟩
  have t1 : Int.tmod (q2 : Int) (n1 : Int) = (r1 : Int) := by rw [← e1]; rfl
  have u1 : Int.tdiv (q2 : Int) (n1 : Int) = (q1 : Int) := by rw [← f1]; rfl
  have m1 : q1 ≤ q2 := by rw [← f1]; exact Nat.div_le_self _ _
  have v1 : IntKind.i64.wrap (q1 : Int) = (q1 : Int) := wrap64 (by omega) (by omega)
  have y1 : ¬ n1 = 0 := by omega
  rw [e1] at g1
  rw [f1] at g0
  obtain ⟨r0, e0⟩ : ∃ r, q1 % n0 = r := ⟨_, rfl⟩
  obtain ⟨q0, f0⟩ : ∃ q, q1 / n0 = q := ⟨_, rfl⟩
  have t0 : Int.tmod (q1 : Int) (n0 : Int) = (r0 : Int) := by rw [← e0]; rfl
  have u0 : Int.tdiv (q1 : Int) (n0 : Int) = (q0 : Int) := by rw [← f0]; rfl
  have m0 : q0 ≤ q1 := by rw [← f0]; exact Nat.div_le_self _ _
  have v0 : IntKind.i64.wrap (q0 : Int) = (q0 : Int) := wrap64 (by omega) (by omega)
  have y0 : ¬ n0 = 0 := by omega
  rw [e0] at g0
  have i1 : ¬ (N : Int) < 0 := by omega
  have i2 : ¬ (Q : Int) ≤ N := by omega
  have i3 : ¬ (256 : Int) < Q := by omega
  refine ⟨true, ?_⟩
  rw [callF_eq tbl21, Ytcfijihoepkgeaa.c21]
  subst hv
  clear e4 e3 e2 e1 e0 f4 f3 f2 f1 f0
  simp [callV_pure, p22, p39, p40, d40n, hd, e39, i1, i2, i3, execC_loop, c21_b0, c21_r0, c21_a0, c21_r1, c21_a1, t4, t3, t2, t1, t0, u4, u3, u2, u1, u0, v4, v3, v2, v1, v0, y4, y3, y2, y1, y0, g4, g3, g2, g1, g0]
  rw [if_pos (by kernel_rfl)]
  simp [callV_pure, p22, p39, p40, d40n, hd, e39, i1, i2, i3, execC_loop, c21_b0, c21_r0, c21_a0, c21_r1, c21_a1, t4, t3, t2, t1, t0, u4, u3, u2, u1, u0, v4, v3, v2, v1, v0, y4, y3, y2, y1, y0, g4, g3, g2, g1, g0]
  rw [if_pos (by kernel_rfl)]
  simp [callV_pure, p22, p39, p40, d40n, hd, e39, i1, i2, i3, execC_loop, c21_b0, c21_r0, c21_a0, c21_r1, c21_a1, t4, t3, t2, t1, t0, u4, u3, u2, u1, u0, v4, v3, v2, v1, v0, y4, y3, y2, y1, y0, g4, g3, g2, g1, g0]
theorem e21t (k : Nat) (es0 es1 es2 es3 es4 : List (List V)) (m p pa iv fa : Int) (v : V) (N : Nat) (hN : N < es0.length * es1.length * es2.length * es3.length * es4.length) (hP : es0.length * es1.length * es2.length * es3.length * es4.length ≤ 256)
    (g4 : es4[N % es4.length]? = some [.int .i64 fa]) (g3 : es3[N / es4.length % es3.length]? = some [.int .i64 iv]) (g2 : es2[N / es4.length / es3.length % es2.length]? = some [v]) (g1 : es1[N / es4.length / es3.length / es2.length % es1.length]? = some [.int .i64 pa])
    (g0 : es0[N / es4.length / es3.length / es2.length / es1.length % es0.length]? = some [.int .i64 p]) {es : List (List V)} (hv : v = .tsl 2 es) (hes : ∀ e ∈ es, ∃ a b, e = [.int .i64 a, .int .i64 b]) (hel : es.length * 16 ≤ 140737488351232) :
    ∃ d, callF tbl pu (k + 12) 21 [.agg [.tsl 1 es0, .tsl 1 es1, .tsl 1 es2, .tsl 1 es3, .tsl 1 es4, .int .i64 m], .int .i64 N] [] = some (.tup [.agg [.int .i64 p, .sl 2 0 es.length 0 es.length, .int .i64 pa, .int .i64 m], .int .i64 iv, .int .i64 fa, .int .i64 0], [{ z := 2, es := es, fz := 0, box := false, flat := true }], d) := by
  have h : Sp (.tsl 1 es0) (.tsl 1 es1) (.tsl 1 es2) (.tsl 1 es3) (.tsl 1 es4) := by constructor <;> simp [V.lst]
  obtain ⟨d, hd⟩ := e22 (k + 1) (.tsl 1 es0) (.tsl 1 es1) (.tsl 1 es2) (.tsl 1 es3) (.tsl 1 es4) m h
  have e39 := fun k => d39 k (.tsl 1 es0) (.tsl 1 es1) (.tsl 1 es2) (.tsl 1 es3) (.tsl 1 es4) m h
  simp only [lenV] at hd e39
  obtain ⟨z0, z1, z2, z3, z4⟩ := pos5 hN
  have hs : imin ((es0.length * es1.length * es2.length * es3.length * es4.length : Nat) : Int) 257 = ((es0.length * es1.length * es2.length * es3.length * es4.length : Nat) : Int) := by unfold imin; rw [if_neg (by omega)]
  rw [hs] at hd
  generalize hQ : es0.length * es1.length * es2.length * es3.length * es4.length = Q at *
  generalize es0.length = n0 at *
  generalize es1.length = n1 at *
  generalize es2.length = n2 at *
  generalize es3.length = n3 at *
  generalize es4.length = n4 at *
  obtain ⟨r4, e4⟩ : ∃ r, N % n4 = r := ⟨_, rfl⟩
  obtain ⟨q4, f4⟩ : ∃ q, N / n4 = q := ⟨_, rfl⟩
  have t4 : Int.tmod (N : Int) (n4 : Int) = (r4 : Int) := by rw [← e4]; rfl
  have u4 : Int.tdiv (N : Int) (n4 : Int) = (q4 : Int) := by rw [← f4]; rfl
  have m4 : q4 ≤ N := by rw [← f4]; exact Nat.div_le_self _ _
  have v4 : IntKind.i64.wrap (q4 : Int) = (q4 : Int) := wrap64 (by omega) (by omega)
  have y4 : ¬ n4 = 0 := by omega
  rw [e4] at g4
  rw [f4] at g3 g2 g1 g0
  obtain ⟨r3, e3⟩ : ∃ r, q4 % n3 = r := ⟨_, rfl⟩
  obtain ⟨q3, f3⟩ : ∃ q, q4 / n3 = q := ⟨_, rfl⟩
  have t3 : Int.tmod (q4 : Int) (n3 : Int) = (r3 : Int) := by rw [← e3]; rfl
  have u3 : Int.tdiv (q4 : Int) (n3 : Int) = (q3 : Int) := by rw [← f3]; rfl
  have m3 : q3 ≤ q4 := by rw [← f3]; exact Nat.div_le_self _ _
  have v3 : IntKind.i64.wrap (q3 : Int) = (q3 : Int) := wrap64 (by omega) (by omega)
  have y3 : ¬ n3 = 0 := by omega
  rw [e3] at g3
  rw [f3] at g2 g1 g0
  obtain ⟨r2, e2⟩ : ∃ r, q3 % n2 = r := ⟨_, rfl⟩
  obtain ⟨q2, f2⟩ : ∃ q, q3 / n2 = q := ⟨_, rfl⟩
  have t2 : Int.tmod (q3 : Int) (n2 : Int) = (r2 : Int) := by rw [← e2]; rfl
  have u2 : Int.tdiv (q3 : Int) (n2 : Int) = (q2 : Int) := by rw [← f2]; rfl
  have m2 : q2 ≤ q3 := by rw [← f2]; exact Nat.div_le_self _ _
  have v2 : IntKind.i64.wrap (q2 : Int) = (q2 : Int) := wrap64 (by omega) (by omega)
  have y2 : ¬ n2 = 0 := by omega
  rw [e2] at g2
  rw [f2] at g1 g0
  obtain ⟨r1, e1⟩ : ∃ r, q2 % n1 = r := ⟨_, rfl⟩
  obtain ⟨q1, f1⟩ : ∃ q, q2 / n1 = q := ⟨_, rfl⟩
  have t1 : Int.tmod (q2 : Int) (n1 : Int) = (r1 : Int) := by rw [← e1]; rfl
  have u1 : Int.tdiv (q2 : Int) (n1 : Int) = (q1 : Int) := by rw [← f1]; rfl
  have m1 : q1 ≤ q2 := by rw [← f1]; exact Nat.div_le_self _ _
  have v1 : IntKind.i64.wrap (q1 : Int) = (q1 : Int) := wrap64 (by omega) (by omega)
  have y1 : ¬ n1 = 0 := by omega
  rw [e1] at g1
  rw [f1] at g0
  obtain ⟨r0, e0⟩ : ∃ r, q1 % n0 = r := ⟨_, rfl⟩
  obtain ⟨q0, f0⟩ : ∃ q, q1 / n0 = q := ⟨_, rfl⟩
  have t0 : Int.tmod (q1 : Int) (n0 : Int) = (r0 : Int) := by rw [← e0]; rfl
  have u0 : Int.tdiv (q1 : Int) (n0 : Int) = (q0 : Int) := by rw [← f0]; rfl
  have m0 : q0 ≤ q1 := by rw [← f0]; exact Nat.div_le_self _ _
  have v0 : IntKind.i64.wrap (q0 : Int) = (q0 : Int) := wrap64 (by omega) (by omega)
  have y0 : ¬ n0 = 0 := by omega
  rw [e0] at g0
  have i1 : ¬ (N : Int) < 0 := by omega
  have i2 : ¬ (Q : Int) ≤ N := by omega
  have i3 : ¬ (256 : Int) < Q := by omega
  refine ⟨true, ?_⟩
  rw [callF_eq tbl21, Ytcfijihoepkgeaa.c21]
  obtain ⟨d4, hd4⟩ := d40 (k + 10) es hes hel
  subst hv
  clear e4 e3 e2 e1 e0 f4 f3 f2 f1 f0
  simp [callV_pure, p22, p39, p40, hd4, hd, e39, i1, i2, i3, execC_loop, c21_b0, c21_r0, c21_a0, c21_r1, c21_a1, t4, t3, t2, t1, t0, u4, u3, u2, u1, u0, v4, v3, v2, v1, v0, y4, y3, y2, y1, y0, g4, g3, g2, g1, g0]
  rw [if_pos (by kernel_rfl)]
  simp [callV_pure, p22, p39, p40, hd4, hd, e39, i1, i2, i3, execC_loop, c21_b0, c21_r0, c21_a0, c21_r1, c21_a1, t4, t3, t2, t1, t0, u4, u3, u2, u1, u0, v4, v3, v2, v1, v0, y4, y3, y2, y1, y0, g4, g3, g2, g1, g0]
  rw [if_pos (by kernel_rfl)]
  simp [callV_pure, p22, p39, p40, hd4, hd, e39, i1, i2, i3, execC_loop, c21_b0, c21_r0, c21_a0, c21_r1, c21_a1, t4, t3, t2, t1, t0, u4, u3, u2, u1, u0, v4, v3, v2, v1, v0, y4, y3, y2, y1, y0, g4, g3, g2, g1, g0]
end Go.AM.Ytcfijihoepkgeaa
