/- Proved: whatever certificate Check accepts for an equation with at most 60 numbers in each range, the reference finds no solution. No condition beside the law's own guard. -/
import Derived.Test.YtpfkhinbehegbaaSayDiophantSound
import Derived.Test.YtpfkhinbehegbaaM7
set_option linter.unusedVariables false
namespace Go.Proofs.Ytpfkhinbehegbaa.Pure
open Go.RowKit Go.Proofs.YtpfkhinbehegbaaW.PrintWords Go.Proofs.Ytpfkhinbehegbaa.X

theorem DiophantSound : Say.DiophantSound := by
  intro A B C xl xh yl yh sl sh kind T _ _ _ _ _ _ _ _ _ _ _
  refine ⟨2147483700, ?_⟩
  unfold jacquardlaw24_DiophantSound.f
  rw [awake_f (by omega), Option.bind_some, if_pos rfl, few_f, Option.bind_some]
  simp only [jacquardlaw24_DiophantSound.j0]
  by_cases hf : V A B C xl xh yl yh sl sh ∧ xh - xl < 60 ∧ yh - yl < 60
  · obtain ⟨hv, hx, hy⟩ := hf
    rw [if_neg (by simp [hv, hx, hy])]
    obtain ⟨u, v, n, hs, hn⟩ := rsolve_f hv hx hy
    obtain ⟨b, hc, hb⟩ := check_f (k := 2147483699) (kind := kind) (T := T) (by omega) hv
    rw [hs, Option.bind_some, hc, Option.bind_some]
    dsimp only
    cases b with
    | false => rw [if_neg (by simp)]
    | true =>
      rw [if_pos rfl]
      have hno := good_none hv (hb.1 rfl)
      rcases hn with ⟨h0, _⟩ | ⟨h0, hl, _⟩
      · simp [h0]
      · exact absurd hl.1 (hno u v)
  · rw [if_pos (by rw [decide_eq_false hf]; rfl), awake_f (by omega), Option.bind_some]
end Go.Proofs.Ytpfkhinbehegbaa.Pure
