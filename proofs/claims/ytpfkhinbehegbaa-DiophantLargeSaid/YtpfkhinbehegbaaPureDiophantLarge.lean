/- Proved: in ranges of any size the result of Solve is a solution, no smaller y has one, and without a solution there is a certificate that is accepted. No condition beside the law's own guard. -/
import Derived.Test.YtpfkhinbehegbaaSayDiophantLarge
import Derived.Test.YtpfkhinbehegbaaM7
set_option linter.unusedVariables false
namespace Go.Proofs.Ytpfkhinbehegbaa.Pure
open Go.RowKit Go.Proofs.YtpfkhinbehegbaaW.PrintWords Go.Proofs.Ytpfkhinbehegbaa.X

theorem v_less {A B C xl xh yl yh sl sh y : Int} (hv : V A B C xl xh yl yh sl sh) (h1 : C31 (y - 1)) : V A B C xl xh yl (y - 1) sl sh := by
  obtain ⟨hA, hB, h1', h2, h3, h4, h5, h6, h7, h8⟩ := hv
  exact ⟨hA, hB, h1', h2, h3, h1, h5, h6, h7, h8⟩
theorem DiophantLarge : Say.DiophantLarge := by
  intro A B C xl xh yl yh sl sh _ _ _ _ _ _ _ _ _
  refine ⟨2147483700, ?_⟩
  unfold jacquardlaw24_DiophantLarge.f
  rw [awake_f (by omega), Option.bind_some, if_pos rfl, rvalid_f, Option.bind_some]
  simp only [jacquardlaw24_DiophantLarge.j0]
  by_cases hv : V A B C xl xh yl yh sl sh
  · rw [if_neg (by simp [hv])]
    obtain ⟨m, hc, hc0, hc1, hcl, hcp⟩ := count_f (k := 2147483699) (by omega) hv
    rcases solve_f (k := 2147483699) (by omega) hv with ⟨x, y, h1, hl⟩ | ⟨h1, hno⟩
    · have hr : diophant_Refuse.f 2147483699 A B C xl xh yl yh sl sh = some (0, 0, false) := by
        rcases refuse_f (k := 2147483699) (by omega) hv with ⟨_, hr⟩ | ⟨hno, _⟩
        · exact hr
        · exact absurd hl.1 (hno x y)
      rw [h1, Option.bind_some, hr, Option.bind_some]
      dsimp only
      rw [if_neg (by simp), hc, Option.bind_some]
      have hm := hcp ⟨x, y, hl.1⟩
      simp only [jacquardlaw24_DiophantLarge.j1]
      rw [if_neg (by simp; omega), if_pos trivial]
      have hs := hl.1
      obtain ⟨g1, g2, g3, g4, g5, g6, g7⟩ := hs
      have hv' := hv
      obtain ⟨hA, hB, b1, b2, b3, b4, b5, b6, b7, b8⟩ := hv'
      have hx : -2147483648 ≤ x ∧ x ≤ 2147483648 := by unfold C31 at b1 b2; omega
      have hy : -2147483648 ≤ y ∧ y ≤ 2147483648 := by unfold C31 at b3 b4; omega
      rw [if_neg (by omega), if_neg (by omega), if_neg (by omega), if_neg (by omega), r24holds_f hA hB ⟨b7, b8⟩ (by omega) (by omega), Option.bind_some]
      have hh : r24hold A B C sl sh x y = true := r24hold_iff.2 ⟨g7, g5, g6⟩
      rw [hh]
      simp only [jacquardlaw24_DiophantLarge.j2]
      rw [if_neg (by simp)]
      by_cases hy0 : y ≤ -2147483648
      · rw [if_pos hy0]
      · rw [if_neg hy0, w64 (x := y - 1) (by omega) (by omega)]
        have hv2 : V A B C xl xh yl (y - 1) sl sh := v_less hv (by unfold C31; omega)
        have hn2 : ∀ x' y', ¬ Sol A B C xl xh yl (y - 1) sl sh x' y' := by
          rintro x' y' ⟨e1, e2, e3, e4, e5, e6, e7⟩
          have := hl.2 x' y' ⟨e1, e2, e3, by omega, e5, e6, e7⟩
          omega
        rcases solve_f (k := 2147483697) (by omega) hv2 with ⟨x', y', _, hl2⟩ | ⟨h2, _⟩
        · exact absurd hl2.1 (hn2 x' y')
        · rcases refuse_f (k := 2147483697) (by omega) hv2 with ⟨⟨x', y', hs⟩, _⟩ | ⟨_, T, hr2, _, hg⟩
          · exact absurd hs (hn2 x' y')
          · obtain ⟨b, hc2, hb⟩ := check_f (k := 2147483697) (kind := firstKind A B C xl xh yl (y - 1) sl sh) (T := T) (by omega) hv2
            rw [h2, Option.bind_some, hr2, Option.bind_some]
            dsimp only
            rw [if_neg (by simp), if_pos rfl, hc2, Option.bind_some, hb.2 hg]
    · rcases refuse_f (k := 2147483699) (by omega) hv with ⟨⟨x', y', hs⟩, _⟩ | ⟨_, T, hr2, _, hg⟩
      · exact absurd hs (hno x' y')
      · obtain ⟨b, hc2, hb⟩ := check_f (k := 2147483698) (kind := firstKind A B C xl xh yl yh sl sh) (T := T) (by omega) hv
        rw [h1, Option.bind_some, hr2, Option.bind_some]
        dsimp only
        rw [if_neg (by simp), hc, Option.bind_some, hc0 hno]
        simp only [jacquardlaw24_DiophantLarge.j1]
        rw [if_neg (by simp), if_neg (by simp), hc2, Option.bind_some, hb.2 hg]
  · rw [if_pos (by rw [decide_eq_false hv]; rfl), awake_f (by omega), Option.bind_some]
end Go.Proofs.Ytpfkhinbehegbaa.Pure
