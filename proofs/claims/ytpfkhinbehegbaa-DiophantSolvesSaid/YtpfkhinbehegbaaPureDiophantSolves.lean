/- Proved: in ranges of at most 60 numbers Solve returns the solution with the least y, then the least x, and Count the number of solutions; for an equation that is not valid all functions return zero values. No condition beside the law's own guard. -/
import Derived.Test.YtpfkhinbehegbaaSayDiophantSolves
import Derived.Test.YtpfkhinbehegbaaM7
set_option linter.unusedVariables false
namespace Go.Proofs.Ytpfkhinbehegbaa.Pure
open Go.RowKit Go.Proofs.YtpfkhinbehegbaaW.PrintWords Go.Proofs.Ytpfkhinbehegbaa.X

theorem count_bad {A B C xl xh yl yh sl sh : Int} {k : Nat} (hk : 2147483680 ≤ k) (hv : ¬ V A B C xl xh yl yh sl sh) : diophant_Count.f k A B C xl xh yl yh sl sh = some 0 := by
  unfold diophant_Count.f
  rw [solve_bad hk hv, Option.bind_some]
  rfl
theorem DiophantSolves : Say.DiophantSolves := by
  intro A B C xl xh yl yh sl sh _ _ _ _ _ _ _ _ _
  refine ⟨2147483700, ?_⟩
  unfold jacquardlaw24_DiophantSolves.f
  rw [awake_f (by omega), Option.bind_some, if_pos rfl, rvalid_f, Option.bind_some]
  by_cases hv : V A B C xl xh yl yh sl sh
  · rw [if_pos (by simpa using hv), few_f, Option.bind_some]
    by_cases hf : V A B C xl xh yl yh sl sh ∧ xh - xl < 60 ∧ yh - yl < 60
    · obtain ⟨_, hx, hy⟩ := hf
      rw [if_pos (by simp [hv, hx, hy])]
      obtain ⟨u, v, n, hs, hn⟩ := rsolve_f hv hx hy
      obtain ⟨m, hc, hc0, hc1, hcl, hcp⟩ := count_f (k := 2147483700) (by omega) hv
      rcases solve_f (k := 2147483700) (by omega) hv with ⟨x, y, h1, hl⟩ | ⟨h1, hno⟩
      · rw [h1, Option.bind_some, hs, Option.bind_some, valid_f (by omega), Option.bind_some, if_pos (by simpa using hv)]
        dsimp only
        rcases hn with ⟨_, _, _, h⟩ | ⟨h0, hl2, hn1, hnl⟩
        · exact absurd hl.1 (h x y)
        · obtain ⟨rfl, rfl⟩ := least_one hl hl2
          rw [if_pos (by simp [h0]), if_pos rfl, if_pos rfl, hc, Option.bind_some]
          have : m = n := by
            by_cases hz : A = 0 ∧ B = 0
            · rw [hc1 ⟨x, y, hl.1⟩ hz, hn1 hz]
            · obtain ⟨l1, g1, g2⟩ := hcl hz
              obtain ⟨l2, g3, g4⟩ := hnl hz
              rw [g2, g4, lists_same g1 g3]
          rw [this]; simp
      · rw [h1, Option.bind_some, hs, Option.bind_some, valid_f (by omega), Option.bind_some, if_pos (by simpa using hv)]
        dsimp only
        rcases hn with ⟨rfl, rfl, rfl, _⟩ | ⟨_, hl2, _⟩
        · rw [if_pos (by simp), if_pos rfl, if_pos rfl, hc, Option.bind_some, hc0 hno]; rfl
        · exact absurd hl2.1 (hno u v)
    · rw [if_neg (by rw [decide_eq_false hf]; simp)]
  · rw [if_neg (by simpa using hv), solve_bad (by omega) hv, Option.bind_some, all_none (by omega) (.inl hv), Option.bind_some, refuse_bad (by omega) hv, Option.bind_some, valid_f (by omega), Option.bind_some, if_neg (by simpa using hv)]
    dsimp only
    rw [if_neg (by simp), if_pos rfl, if_pos rfl, count_bad (by omega) hv, Option.bind_some, if_pos rfl, if_neg (by simp), if_pos (by rfl), if_neg (by simp), if_pos (by rfl), check_bad (by omega) hv]
    rfl
end Go.Proofs.Ytpfkhinbehegbaa.Pure
