/- Proved: an equation with at most 60 numbers in each range has a certificate exactly if the reference finds no solution; it has the first kind that applies and is accepted. No condition beside the law's own guard. -/
import Derived.Test.YtpfkhinbehegbaaSayDiophantRefuses
import Derived.Test.YtpfkhinbehegbaaM7
set_option linter.unusedVariables false
namespace Go.Proofs.Ytpfkhinbehegbaa.Pure
open Go.RowKit Go.Proofs.YtpfkhinbehegbaaW.PrintWords Go.Proofs.Ytpfkhinbehegbaa.X

theorem count_bad {A B C xl xh yl yh sl sh : Int} {k : Nat} (hk : 2147483680 ≤ k) (hv : ¬ V A B C xl xh yl yh sl sh) : diophant_Count.f k A B C xl xh yl yh sl sh = some 0 := by
  unfold diophant_Count.f
  rw [solve_bad hk hv, Option.bind_some]
  rfl
theorem gcd_zero_iff {A B : Int} : (Int.gcd A B : Int) = 0 ↔ A = 0 ∧ B = 0 := by
  rw [← Int.gcd_eq_zero_iff]; omega
theorem DiophantRefuses : Say.DiophantRefuses := by
  intro A B C xl xh yl yh sl sh _ _ _ _ _ _ _ _ _
  refine ⟨2147483700, ?_⟩
  unfold jacquardlaw24_DiophantRefuses.f
  rw [awake_f (by omega), Option.bind_some, if_pos rfl, few_f, Option.bind_some]
  simp only [jacquardlaw24_DiophantRefuses.j0]
  by_cases hf : V A B C xl xh yl yh sl sh ∧ xh - xl < 60 ∧ yh - yl < 60
  · obtain ⟨hv, hx, hy⟩ := hf
    rw [if_neg (by simp [hv, hx, hy])]
    obtain ⟨u, v, n, hs, hn⟩ := rsolve_f hv hx hy
    rw [hs, Option.bind_some]
    dsimp only
    rcases refuse_f (k := 2147483699) (by omega) hv with ⟨⟨x, y, hsol⟩, hr⟩ | ⟨hno, T, hr, hT, hg⟩
    · rw [hr, Option.bind_some]
      dsimp only
      have h0 : n > 0 := by
        rcases hn with ⟨_, _, _, h⟩ | ⟨h, _⟩
        · exact absurd hsol (h x y)
        · exact h
      rw [if_pos h0]; rfl
    · have h0 : ¬ n > 0 := by
        rcases hn with ⟨h, _⟩ | ⟨h, hl, _⟩
        · omega
        · exact absurd hl.1 (hno u v)
      rw [hr, Option.bind_some]
      dsimp only
      have hA : C31 A := hv.1
      have hB : C31 B := hv.2.1
      unfold C31 at hA hB
      obtain ⟨b, hc, hb⟩ := check_f (k := 2147483699) (kind := firstKind A B C xl xh yl yh sl sh) (T := T) (by omega) hv
      have hb1 : b = true := hb.2 hg
      subst hb1
      rw [if_neg h0, rgcd_f _ (by omega) (by omega) (by omega), Option.bind_some, rempty_f hv, Option.bind_some, hc]
      unfold firstKind at hT ⊢
      by_cases hvd : Void xl xh yl yh sl sh
      · rw [if_pos hvd] at hT ⊢
        rw [if_pos (by simpa using hvd), if_pos rfl, if_pos rfl, if_pos (hT (by decide))]
        rfl
      · rw [if_neg hvd] at hT ⊢
        rw [if_neg (by simpa using hvd)]
        by_cases hz : A = 0 ∧ B = 0
        · rw [if_pos hz] at hT ⊢
          rw [if_pos (gcd_zero_iff.2 hz), if_pos rfl, if_pos rfl, if_pos (hT (by decide))]
          rfl
        · rw [if_neg hz] at hT ⊢
          rw [if_neg (fun h => hz (gcd_zero_iff.1 h))]
          by_cases hm : Int.tmod C (Int.gcd A B) = 0
          · have hm' : ¬ (Int.tmod C (Int.gcd A B) ≠ 0) := fun h => h hm
            rw [if_pos hm, if_neg hm', if_pos rfl, if_pos rfl]
            rfl
          · have hm' : Int.tmod C (Int.gcd A B) ≠ 0 := hm
            rw [if_pos hm'] at hT
            rw [if_neg hm, if_pos rfl, if_pos hm', if_pos rfl, if_pos (hT (by decide))]
            rfl
  · rw [if_pos (by rw [decide_eq_false hf]; rfl), awake_f (by omega), Option.bind_some]
end Go.Proofs.Ytpfkhinbehegbaa.Pure
