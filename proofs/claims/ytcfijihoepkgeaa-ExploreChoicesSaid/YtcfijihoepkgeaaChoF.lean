/- The law ExploreChoices. -/
import Derived.Test.YtcfijihoepkgeaaChoG
set_option linter.unusedVariables false
set_option linter.unusedSimpArgs false
namespace Go.AM.Ytcfijihoepkgeaa
open Go Go.AM
set_option maxRecDepth 100000
set_option maxHeartbeats 0
theorem kRet_nil {H l : Heap} {v : V} {d : Bool} : kRet H [] (some (v, l, d)) = (v.ren (backG [] H.length)).bind fun v' => (renH (backG [] H.length) l).map fun l' => (v', .new l') := by
  simp [kRet, Eff.frz]
theorem awakeK (k : Nat) : callF tbl pu (k + 40) 9 [] [] = some (.bool true, [], true) := by kernel_rfl
theorem p9 : pu 9 = true := by decide
theorem p18 : pu 18 = true := by decide
theorem p19 : pu 19 = true := by decide
theorem p21 : pu 21 = true := by decide
theorem p23 : pu 23 = true := by decide
theorem law7n (k : Nat) (l0 l1 l2 l3 l4 : V) (m i : Int) (h : Sp l0 l1 l2 l3 l4) (hi : (decide (lenV l0 ≤ 300) && decide (lenV l1 ≤ 300) && decide (lenV l2 ≤ 300) && decide (lenV l3 ≤ 300) && decide (lenV l4 ≤ 300)) = true → i < 0 ∨ imin ((lenV l0 * lenV l1 * lenV l2 * lenV l3 * lenV l4 : Nat) : Int) 257 ≤ i ∨ 256 < imin ((lenV l0 * lenV l1 * lenV l2 * lenV l3 * lenV l4 : Nat) : Int) 257) :
    ∃ d, callF tbl pu (k + 41) 7 [.agg [l0, l1, l2, l3, l4, .int .i64 m], .int .i64 i] [] = some (.bool true, [], d) := by
  obtain ⟨d18, hd18⟩ := d18 (k + 30) l0 l1 l2 l3 l4 m h
  obtain ⟨dd, hd19⟩ := e19 (k + 30) (lenV l0) (lenV l1) (lenV l2) (lenV l3) (lenV l4)
  obtain ⟨d22, hd22⟩ := e22 (k + 30) l0 l1 l2 l3 l4 m h
  have hd20 := fun k => d20 k l0 l1 l2 l3 l4 m h
  have aw := awakeK k
  have hh := h
  obtain ⟨t0, t1, t2, t3, t4, c0, c1, c2, c3, c4⟩ := hh
  have k0 := V.cell_of_tree t0
  have k1 := V.cell_of_tree t1
  have k2 := V.cell_of_tree t2
  have k3 := V.cell_of_tree t3
  have k4 := V.cell_of_tree t4
  rw [callF_eq tbl7, Ytcfijihoepkgeaa.c7]
  cases hf : (decide (lenV l0 ≤ 300) && decide (lenV l1 ≤ 300) && decide (lenV l2 ≤ 300) && decide (lenV l3 ≤ 300) && decide (lenV l4 ≤ 300)) with
  | false =>
    rw [hf] at hd18
    clear hf hi
    refine ⟨false, ?_⟩
    simp [callV_pure, p9, p18, *]
  | true =>
    obtain ⟨d21, hd21⟩ := e21n (k + 29) l0 l1 l2 l3 l4 m i h (hi hf)
    have hi := hi hf
    rw [hf] at hd18
    clear hf
    refine ⟨true, ?_⟩
    generalize imin ((lenV l0 * lenV l1 * lenV l2 * lenV l3 * lenV l4 : Nat) : Int) 257 = n at *
    by_cases h2 : 256 < n
    · simp [callV_pure, p9, p18, p19, p20, p21, p22, *]
    · by_cases h1 : i < 0
      · simp [callV_pure, p9, p18, p19, p20, p21, p22, *]
      · have h3 : n ≤ i := by omega
        simp [callV_pure, p9, p18, p19, p20, p21, p22, *]
theorem law7s (k : Nat) (es0 es1 es2 es3 es4 : List (List V)) (m p pa iv fa : Int) (v : V) (N : Nat) (hN : N < es0.length * es1.length * es2.length * es3.length * es4.length) (hP : es0.length * es1.length * es2.length * es3.length * es4.length ≤ 256)
    (hl : es0.length ≤ 300 ∧ es1.length ≤ 300 ∧ es2.length ≤ 300 ∧ es3.length ≤ 300 ∧ es4.length ≤ 300)
    (g4 : es4[N % es4.length]? = some [.int .i64 fa]) (g3 : es3[N / es4.length % es3.length]? = some [.int .i64 iv]) (g2 : es2[N / es4.length / es3.length % es2.length]? = some [v]) (g1 : es1[N / es4.length / es3.length / es2.length % es1.length]? = some [.int .i64 pa])
    (g0 : es0[N / es4.length / es3.length / es2.length / es1.length % es0.length]? = some [.int .i64 p]) (hq : N / es4.length / es3.length / es2.length / es1.length % es0.length = N / es4.length / es3.length / es2.length / es1.length) (hv : v = .nils) :
    ∃ d, callF tbl pu (k + N + 41) 7 [.agg [.tsl 1 es0, .tsl 1 es1, .tsl 1 es2, .tsl 1 es3, .tsl 1 es4, .int .i64 m], .int .i64 N] [] = some (.bool true, [], d) := by
  have h : Sp (.tsl 1 es0) (.tsl 1 es1) (.tsl 1 es2) (.tsl 1 es3) (.tsl 1 es4) := by constructor <;> simp [V.lst]
  obtain ⟨z0, z1, z2, z3, z4⟩ := pos5 hN
  obtain ⟨d18, hd18⟩ := d18 (k + N + 30) (.tsl 1 es0) (.tsl 1 es1) (.tsl 1 es2) (.tsl 1 es3) (.tsl 1 es4) m h
  obtain ⟨dd, hd19⟩ := e19 (k + N + 30) es0.length es1.length es2.length es3.length es4.length
  obtain ⟨d22, hd22⟩ := e22 (k + N + 30) (.tsl 1 es0) (.tsl 1 es1) (.tsl 1 es2) (.tsl 1 es3) (.tsl 1 es4) m h
  obtain ⟨d23, hd23⟩ := d23 (k + 30) es0.length es1.length es2.length es3.length es4.length N (by omega) z1 z2 z3 z4
  rw [show k + 30 + N + 10 = k + N + 40 by omega] at hd23
  have hd20 := fun k => d20 k (.tsl 1 es0) (.tsl 1 es1) (.tsl 1 es2) (.tsl 1 es3) (.tsl 1 es4) m h
  obtain ⟨d21, hd21⟩ := e21 (k + N + 28) es0 es1 es2 es3 es4 m p pa iv fa v N hN hP g4 g3 g2 g1 g0 hv
  have aw := awakeK (k + N)
  have hs : imin ((es0.length * es1.length * es2.length * es3.length * es4.length : Nat) : Int) 257 = ((es0.length * es1.length * es2.length * es3.length * es4.length : Nat) : Int) := by unfold imin; rw [if_neg (by omega)]
  simp only [lenV] at hd18 hd22 hd20
  rw [hs] at hd22 hd19
  simp only [hl, decide_true, Bool.and_self] at hd18
  rw [hq] at g0
  generalize hQ : es0.length * es1.length * es2.length * es3.length * es4.length = Q at *
  generalize es0.length = n0 at *
  generalize es1.length = n1 at *
  generalize es2.length = n2 at *
  generalize es3.length = n3 at *
  generalize es4.length = n4 at *
  generalize N / n4 / n3 / n2 / n1 = r0 at *
  generalize N / n4 / n3 / n2 % n1 = r1 at *
  generalize N / n4 / n3 % n2 = r2 at *
  generalize N / n4 % n3 = r3 at *
  generalize N % n4 = r4 at *
  have i1 : ¬ (N : Int) < 0 := by omega
  have i2 : ¬ (Q : Int) ≤ N := by omega
  have i3 : ¬ (256 : Int) < Q := by omega
  subst hv
  refine ⟨true, ?_⟩
  rw [callF_eq tbl7, Ytcfijihoepkgeaa.c7]
  clear h hs hl hN hP
  simp [callV_pure, p9, p18, p19, p20, p21, p22, p23, aw, hd18, hd19, hd20, hd21, hd22, hd23, i1, i2, i3, g0, g1, g2, g3, g4, execC_loop]
  simp (maxSteps := 2000000) [callV_pure, p9, p18, p19, p20, p21, p22, p23, aw, hd18, hd19, hd20, hd21, hd22, hd23, i1, i2, i3, g0, g1, g2, g3, g4, c7_r0, c7_a0, c7_r1, c7_a1, execC_loop, c7_b0]
theorem law7t (k : Nat) (es0 es1 es2 es3 es4 : List (List V)) (m p pa iv fa : Int) (v : V) (N : Nat) (hN : N < es0.length * es1.length * es2.length * es3.length * es4.length) (hP : es0.length * es1.length * es2.length * es3.length * es4.length ≤ 256)
    (hl : es0.length ≤ 300 ∧ es1.length ≤ 300 ∧ es2.length ≤ 300 ∧ es3.length ≤ 300 ∧ es4.length ≤ 300)
    (g4 : es4[N % es4.length]? = some [.int .i64 fa]) (g3 : es3[N / es4.length % es3.length]? = some [.int .i64 iv]) (g2 : es2[N / es4.length / es3.length % es2.length]? = some [v]) (g1 : es1[N / es4.length / es3.length / es2.length % es1.length]? = some [.int .i64 pa])
    (g0 : es0[N / es4.length / es3.length / es2.length / es1.length % es0.length]? = some [.int .i64 p]) (hq : N / es4.length / es3.length / es2.length / es1.length % es0.length = N / es4.length / es3.length / es2.length / es1.length) {es : List (List V)} (hv : v = .tsl 2 es) (hes : ∀ e ∈ es, ∃ a b, e = [.int .i64 a, .int .i64 b]) (hel : es.length * 16 ≤ 140737488351232) :
    ∃ d, callF tbl pu (k + N + es.length + 41) 7 [.agg [.tsl 1 es0, .tsl 1 es1, .tsl 1 es2, .tsl 1 es3, .tsl 1 es4, .int .i64 m], .int .i64 N] [] = some (.bool true, [], d) := by
  have h : Sp (.tsl 1 es0) (.tsl 1 es1) (.tsl 1 es2) (.tsl 1 es3) (.tsl 1 es4) := by constructor <;> simp [V.lst]
  obtain ⟨z0, z1, z2, z3, z4⟩ := pos5 hN
  obtain ⟨d18, hd18⟩ := d18 (k + N + es.length + 30) (.tsl 1 es0) (.tsl 1 es1) (.tsl 1 es2) (.tsl 1 es3) (.tsl 1 es4) m h
  obtain ⟨dd, hd19⟩ := e19 (k + N + es.length + 30) es0.length es1.length es2.length es3.length es4.length
  obtain ⟨d22, hd22⟩ := e22 (k + N + es.length + 30) (.tsl 1 es0) (.tsl 1 es1) (.tsl 1 es2) (.tsl 1 es3) (.tsl 1 es4) m h
  obtain ⟨d23, hd23⟩ := d23 (k + es.length + 30) es0.length es1.length es2.length es3.length es4.length N (by omega) z1 z2 z3 z4
  rw [show k + es.length + 30 + N + 10 = k + N + es.length + 40 by omega] at hd23
  have hd20 := fun k => d20 k (.tsl 1 es0) (.tsl 1 es1) (.tsl 1 es2) (.tsl 1 es3) (.tsl 1 es4) m h
  obtain ⟨d21, hd21⟩ := e21t (k + N + es.length + 28) es0 es1 es2 es3 es4 m p pa iv fa v N hN hP g4 g3 g2 g1 g0 hv hes hel
  have aw := awakeK (k + N + es.length)
  have hs : imin ((es0.length * es1.length * es2.length * es3.length * es4.length : Nat) : Int) 257 = ((es0.length * es1.length * es2.length * es3.length * es4.length : Nat) : Int) := by unfold imin; rw [if_neg (by omega)]
  simp only [lenV] at hd18 hd22 hd20
  rw [hs] at hd22 hd19
  simp only [hl, decide_true, Bool.and_self] at hd18
  rw [hq] at g0
  generalize hQ : es0.length * es1.length * es2.length * es3.length * es4.length = Q at *
  generalize es0.length = n0 at *
  generalize es1.length = n1 at *
  generalize es2.length = n2 at *
  generalize es3.length = n3 at *
  generalize es4.length = n4 at *
  generalize N / n4 / n3 / n2 / n1 = r0 at *
  generalize N / n4 / n3 / n2 % n1 = r1 at *
  generalize N / n4 / n3 % n2 = r2 at *
  generalize N / n4 % n3 = r3 at *
  generalize N % n4 = r4 at *
  have i1 : ¬ (N : Int) < 0 := by omega
  have i2 : ¬ (Q : Int) ≤ N := by omega
  have i3 : ¬ (256 : Int) < Q := by omega
  subst hv
  refine ⟨true, ?_⟩
  rw [callF_eq tbl7, Ytcfijihoepkgeaa.c7]
  clear h hs hl hN hP
  simp [callV_pure, p9, p18, p19, p20, p21, p22, p23, aw, hd18, hd19, hd20, hd21, hd22, hd23, i1, i2, i3, g0, g1, g2, g3, g4, execC_loop, -kIter_succ, kRet_nil, renH, backG]
  simp (maxSteps := 2000000) [callV_pure, p9, p18, p19, p20, p21, p22, p23, aw, hd18, hd19, hd20, hd21, hd22, hd23, i1, i2, i3, g0, g1, g2, g3, g4, c7_r0, c7_a0, c7_r1, c7_a1, execC_loop, -kIter_succ, kRet_nil, renH, backG]
  rw [iter_to (fun j => T7 es es.length p pa m j) es.length (r := (.exit 0, ⟨(T7 es es.length p pa m es.length).fr.set 150 (.bool false), (T7 es es.length p pa m es.length).H, true⟩)) ?h0 (by omega) ?hs ?he (by simp)]
  case h0 => simp [T7]
  case hs =>
    intro j hj
    obtain ⟨a, b, hab⟩ := hes es[j] (List.getElem_mem hj)
    exact s7 _ _ es es.length p pa m j a b (by rw [List.getElem?_eq_getElem hj, hab]) rfl (by omega)
  case he => simp [T7, c7_b0]
  simp [T7]
end Go.AM.Ytcfijihoepkgeaa
