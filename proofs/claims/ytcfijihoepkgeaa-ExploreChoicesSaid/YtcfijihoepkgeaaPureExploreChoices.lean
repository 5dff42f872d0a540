/- The law ExploreChoices over the executor: no conditions beyond the arguments' types. -/
import Derived.Test.YtcfijihoepkgeaaChoF
import Derived.Test.YtcfijihoepkgeaaSayExploreChoices
set_option linter.unusedVariables false
set_option linter.unusedSimpArgs false
namespace Go.AM.Ytcfijihoepkgeaa
open Go Go.AM
theorem sl35 {l : V} (h : S35 [l]) : l.tree = true ∧ l.lst = true ∧ (0 < lenV l → ∃ es, l = .tsl 1 es ∧ ∀ (j : Nat), j < es.length → ∃ n, es[j]? = some [.int .i64 n]) := by
  rcases h with h | ⟨es, h, _, _, he⟩
  · simp at h; subst h; exact ⟨by simp, rfl, fun h => by simp [lenV] at h⟩
  · simp at h; subst h
    refine ⟨by simp, rfl, fun _ => ⟨es, rfl, fun j hj => ?_⟩⟩
    obtain ⟨n, hn, _⟩ := he es[j] (List.getElem_mem hj)
    exact ⟨n, by rw [List.getElem?_eq_getElem hj, hn]⟩
theorem sl36 {l : V} (h : S36 [l]) : l.tree = true ∧ l.lst = true ∧ (0 < lenV l → ∃ es, l = .tsl 1 es ∧ ∀ (j : Nat), j < es.length → ∃ v, es[j]? = some [v] ∧ (v = .nils ∨ ∃ es', v = .tsl 2 es' ∧ (∀ e ∈ es', ∃ a b, e = [.int .i64 a, .int .i64 b]) ∧ es'.length * 16 ≤ 140737488351232)) := by
  rcases h with h | ⟨es, h, _, _, he⟩
  · simp at h; subst h; exact ⟨by simp, rfl, fun h => by simp [lenV] at h⟩
  · simp at h; subst h
    refine ⟨by simp, rfl, fun _ => ⟨es, rfl, fun j hj => ?_⟩⟩
    have hx := List.getElem?_eq_getElem hj
    rcases he es[j] (List.getElem_mem hj) with h | ⟨es', h, hb, _, hes⟩
    · exact ⟨.nils, by rw [hx, h], .inl rfl⟩
    · refine ⟨_, by rw [hx, h], .inr ⟨es', rfl, fun e he' => ?_, hb⟩⟩
      obtain ⟨a, b, rfl, _⟩ := flat52 (hes e he')
      exact ⟨a, b, rfl⟩
theorem divlt {N a0 a1 a2 a3 a4 : Nat} (h : N < a0 * a1 * a2 * a3 * a4) : N / a4 / a3 / a2 / a1 < a0 := by
  rw [Nat.div_div_eq_div_mul, Nat.div_div_eq_div_mul, Nat.div_div_eq_div_mul]
  refine Nat.div_lt_of_lt_mul ?_
  rw [show a4 * (a3 * (a2 * a1)) * a0 = a0 * a1 * a2 * a3 * a4 by ac_rfl]
  exact h
theorem PureExploreChoices : SayExploreChoices := by
  rintro x0 x1 ⟨vs, rfl, h⟩ ⟨i, rfl, hi⟩
  obtain ⟨l0, l1, l2, l3, l4, m, rfl, h0, h1, h2, h3, h4, hm⟩ := flat38 h
  obtain ⟨t0, c0, f0⟩ := sl35 h0
  obtain ⟨t1, c1, f1⟩ := sl35 h1
  obtain ⟨t2, c2, f2⟩ := sl36 h2
  obtain ⟨t3, c3, f3⟩ := sl35 h3
  obtain ⟨t4, c4, f4⟩ := sl35 h4
  have hsp : Sp l0 l1 l2 l3 l4 := ⟨t0, t1, t2, t3, t4, c0, c1, c2, c3, c4⟩
  by_cases hg : (decide (lenV l0 ≤ 300) && decide (lenV l1 ≤ 300) && decide (lenV l2 ≤ 300) && decide (lenV l3 ≤ 300) && decide (lenV l4 ≤ 300)) = true → i < 0 ∨ imin ((lenV l0 * lenV l1 * lenV l2 * lenV l3 * lenV l4 : Nat) : Int) 257 ≤ i ∨ 256 < imin ((lenV l0 * lenV l1 * lenV l2 * lenV l3 * lenV l4 : Nat) : Int) 257
  · obtain ⟨d, hd⟩ := law7n 0 l0 l1 l2 l3 l4 m i hsp hg
    exact ⟨_, _, d, hd⟩
  · simp only [Classical.not_imp, not_or] at hg
    obtain ⟨hf, i1, i2, i3⟩ := hg
    obtain ⟨N, rfl⟩ : ∃ N : Nat, i = N := ⟨i.toNat, by omega⟩
    simp only [Bool.and_eq_true, decide_eq_true_eq] at hf
    have hP : lenV l0 * lenV l1 * lenV l2 * lenV l3 * lenV l4 ≤ 256 := by unfold imin at i3; split at i3 <;> omega
    have hN : N < lenV l0 * lenV l1 * lenV l2 * lenV l3 * lenV l4 := by unfold imin at i2; split at i2 <;> omega
    obtain ⟨z0, z1, z2, z3, z4⟩ := pos5 hN
    obtain ⟨es0, rfl, g0⟩ := f0 z0
    obtain ⟨es1, rfl, g1⟩ := f1 z1
    obtain ⟨es2, rfl, g2⟩ := f2 z2
    obtain ⟨es3, rfl, g3⟩ := f3 z3
    obtain ⟨es4, rfl, g4⟩ := f4 z4
    simp only [lenV] at *
    have hq : N / es4.length / es3.length / es2.length / es1.length % es0.length = N / es4.length / es3.length / es2.length / es1.length := Nat.mod_eq_of_lt (divlt hN)
    obtain ⟨fa, e4⟩ := g4 _ (Nat.mod_lt N z4)
    obtain ⟨iv, e3⟩ := g3 _ (Nat.mod_lt (N / es4.length) z3)
    obtain ⟨v, e2, hv⟩ := g2 _ (Nat.mod_lt (N / es4.length / es3.length) z2)
    obtain ⟨pa, e1⟩ := g1 _ (Nat.mod_lt (N / es4.length / es3.length / es2.length) z1)
    obtain ⟨p, e0⟩ := g0 _ (Nat.mod_lt (N / es4.length / es3.length / es2.length / es1.length) z0)
    have hl : es0.length ≤ 300 ∧ es1.length ≤ 300 ∧ es2.length ≤ 300 ∧ es3.length ≤ 300 ∧ es4.length ≤ 300 := by omega
    rcases hv with hv | ⟨es, hv, hes, hel⟩
    · obtain ⟨d, hd⟩ := law7s 0 es0 es1 es2 es3 es4 m p pa iv fa v N hN hP hl e4 e3 e2 e1 e0 hq hv
      exact ⟨_, _, d, hd⟩
    · obtain ⟨d, hd⟩ := law7t 0 es0 es1 es2 es3 es4 m p pa iv fa v N hN hP hl e4 e3 e2 e1 e0 hq hv hes hel
      exact ⟨_, _, d, hd⟩
end Go.AM.Ytcfijihoepkgeaa
