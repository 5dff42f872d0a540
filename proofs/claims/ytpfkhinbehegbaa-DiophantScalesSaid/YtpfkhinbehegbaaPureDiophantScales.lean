/- Proved: an equation that is multiplied by a number, and one with x and y exchanged, have the corresponding solutions. No condition beside the law's own guard. -/
import Derived.Test.YtpfkhinbehegbaaSayDiophantScales
import Derived.Test.YtpfkhinbehegbaaM7
set_option linter.unusedVariables false
namespace Go.Proofs.Ytpfkhinbehegbaa.Pure
open Go.RowKit Go.Proofs.YtpfkhinbehegbaaW.PrintWords Go.Proofs.Ytpfkhinbehegbaa.X

theorem sol_turned {A B C xl xh yl yh sl sh x y : Int} : Sol B A C yl yh xl xh sl sh y x ↔ Sol A B C xl xh yl yh sl sh x y := by
  unfold Sol; rw [Int.add_comm (B * y)]; omega
theorem v_turned {A B C xl xh yl yh sl sh : Int} (hv : V A B C xl xh yl yh sl sh) : V B A C yl yh xl xh sl sh := by
  obtain ⟨a, b, c, d, e, f, g, h, i, j⟩ := hv
  exact ⟨b, a, e, f, c, d, g, h, i, j⟩
theorem lists_turned {A B C xl xh yl yh sl sh : Int} {l : List (Int × Int)} (h : Lists B A C yl yh xl xh sl sh l) : Lists A B C xl xh yl yh sl sh (l.map fun p => (p.2, p.1)) := by
  refine ⟨nodup_map (fun p _ q _ he => ?_) h.1, fun p => ?_⟩
  · injection he with e1 e2
    exact Prod.ext e2 e1
  · rw [List.mem_map, ← sol_turned, ← h.2 (p.2, p.1)]
    constructor
    · rintro ⟨q, hq, rfl⟩; exact hq
    · intro hp; exact ⟨_, hp, rfl⟩
theorem count_turned {A B C xl xh yl yh sl sh : Int} {k : Nat} (hk : 2147483680 ≤ k) (hv : V A B C xl xh yl yh sl sh) :
    ∃ n, diophant_Count.f k B A C yl yh xl xh sl sh = some n ∧ diophant_Count.f k A B C xl xh yl yh sl sh = some n := by
  obtain ⟨n, hn, n0, n1, nl, _⟩ := count_f hk hv
  obtain ⟨m, hm, m0, m1, ml, _⟩ := count_f hk (v_turned hv)
  have : m = n := by
    by_cases hs : ∃ x y, Sol A B C xl xh yl yh sl sh x y
    · have hs' : ∃ x y, Sol B A C yl yh xl xh sl sh x y := by obtain ⟨x, y, h⟩ := hs; exact ⟨y, x, sol_turned.2 h⟩
      by_cases hz : A = 0 ∧ B = 0
      · rw [n1 hs hz, m1 hs' ⟨hz.2, hz.1⟩]
      · obtain ⟨l, g1, g2⟩ := nl hz
        obtain ⟨l', g3, g4⟩ := ml (fun h => hz ⟨h.2, h.1⟩)
        have := lists_same g1 (lists_turned g3)
        rw [List.length_map] at this
        omega
    · rw [n0 (fun x y h => hs ⟨x, y, h⟩), m0 (fun y x h => hs ⟨x, y, sol_turned.1 h⟩)]
  exact ⟨n, this ▸ hm, hn⟩
theorem sol_scaled {A B C xl xh yl yh sl sh x y m : Int} (hm : m ≠ 0) : Sol (m * A) (m * B) (m * C) xl xh yl yh sl sh x y ↔ Sol A B C xl xh yl yh sl sh x y := by
  have : m * A * x + m * B * y = m * C ↔ A * x + B * y = C := by
    constructor
    · intro h
      apply Int.eq_of_mul_eq_mul_left hm
      rw [← h]; grind
    · intro h
      rw [← h]; grind
  unfold Sol; rw [this]
theorem zero_scaled {A m : Int} (hm : m ≠ 0) : m * A = 0 ↔ A = 0 := by
  rw [Int.mul_eq_zero]; omega
theorem DiophantScales : Say.DiophantScales := by
  intro A B C xl xh yl yh sl sh t _ _ _ _ _ _ _ _ _ ht
  refine ⟨2147483700, ?_⟩
  have htb := bounds_i8 ht
  unfold jacquardlaw24_DiophantScales.f
  rw [awake_f (by omega), Option.bind_some, if_pos rfl, rvalid_f, Option.bind_some]
  by_cases hv : V A B C xl xh yl yh sl sh
  · rw [if_pos (by simpa using hv)]
    simp only [jacquardlaw24_DiophantScales.j0]
    by_cases h0 : t = 0
    · rw [if_pos (by simp [h0]), awake_f (by omega), Option.bind_some]
    · rw [if_neg (by simpa using h0)]
      obtain ⟨n, h1, h2⟩ := count_turned (k := 2147483699) (by omega) hv
      rw [h1, Option.bind_some, h2, Option.bind_some, if_pos rfl]
      have hA : C31 A := hv.1
      have hB : C31 B := hv.2.1
      have hC : C.natAbs ≤ 2305843009213693952 := by unfold V at hv; omega
      unfold C31 at hA hB
      rw [rabs_f (by omega) (by omega), Option.bind_some]
      by_cases hb : (C.natAbs : Int) > 1125899906842624
      · rw [if_pos hb]
      · rw [if_neg hb, w64 (x := t) (by omega) (by omega)]
        have b1 := bound_mul (a := t) (b := A) (m := 128) (n := 2147483648) (by omega) (by omega)
        have b2 := bound_mul (a := t) (b := B) (m := 128) (n := 2147483648) (by omega) (by omega)
        have b3 := bound_mul (a := t) (b := C) (m := 128) (n := 1125899906842624) (by omega) (by omega)
        rw [w64 (x := t * A) (by omega) (by omega), w64 (x := t * B) (by omega) (by omega), w64 (x := t * C) (by omega) (by omega), rvalid_f, Option.bind_some]
        by_cases hv2 : V (t * A) (t * B) (t * C) xl xh yl yh sl sh
        · rw [if_pos (by simpa using hv2)]
          obtain ⟨c1, e1, z1, o1, l1, _⟩ := count_f (k := 2147483699) (by omega) hv
          obtain ⟨c2, e2, z2, o2, l2, _⟩ := count_f (k := 2147483699) (by omega) hv2
          have hc : c2 = c1 := by
            by_cases hs : ∃ x y, Sol A B C xl xh yl yh sl sh x y
            · have hs' : ∃ x y, Sol (t * A) (t * B) (t * C) xl xh yl yh sl sh x y := by obtain ⟨x, y, h⟩ := hs; exact ⟨x, y, (sol_scaled h0).2 h⟩
              by_cases hz : A = 0 ∧ B = 0
              · rw [o1 hs hz, o2 hs' ⟨(zero_scaled h0).2 hz.1, (zero_scaled h0).2 hz.2⟩]
              · obtain ⟨l, g1, g2⟩ := l1 hz
                obtain ⟨l', g3, g4⟩ := l2 (fun h => hz ⟨(zero_scaled h0).1 h.1, (zero_scaled h0).1 h.2⟩)
                have g5 : Lists A B C xl xh yl yh sl sh l' := ⟨g3.1, fun p => (g3.2 p).trans (sol_scaled h0)⟩
                rw [g2, g4, lists_same g1 g5]
            · rw [z1 (fun x y h => hs ⟨x, y, h⟩), z2 (fun x y h => hs ⟨x, y, (sol_scaled h0).1 h⟩)]
          rcases solve_f (k := 2147483699) (by omega) hv with ⟨x, y, s1, hl⟩ | ⟨s1, hn⟩
          · rcases solve_f (k := 2147483699) (by omega) hv2 with ⟨u, v, s2, hl2⟩ | ⟨s2, hn2⟩
            · have hl3 : Least A B C xl xh yl yh sl sh u v := ⟨(sol_scaled h0).1 hl2.1, fun x' y' h => hl2.2 x' y' ((sol_scaled h0).2 h)⟩
              obtain ⟨rfl, rfl⟩ := least_one hl hl3
              rw [s1, Option.bind_some, s2, Option.bind_some]
              dsimp only
              rw [if_pos (by rfl), if_pos rfl, if_pos rfl, e2, Option.bind_some, Option.bind_some, hc, Option.some.inj (e1.symm.trans h2)]; simp
            · exact absurd ((sol_scaled h0).2 hl.1) (hn2 x y)
          · rcases solve_f (k := 2147483699) (by omega) hv2 with ⟨u, v, s2, hl2⟩ | ⟨s2, hn2⟩
            · exact absurd ((sol_scaled h0).1 hl2.1) (hn u v)
            · rw [s1, Option.bind_some, s2, Option.bind_some]
              dsimp only
              rw [if_pos (by rfl), if_pos rfl, if_pos rfl, e2, Option.bind_some, Option.bind_some, hc, Option.some.inj (e1.symm.trans h2)]; simp
        · rw [if_neg (by simpa using hv2)]
  · rw [if_neg (by simpa using hv)]
    simp only [jacquardlaw24_DiophantScales.j0]
    rw [if_pos trivial, awake_f (by omega), Option.bind_some]
end Go.Proofs.Ytpfkhinbehegbaa.Pure
