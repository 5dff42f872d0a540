/- Proved: the pairs of All satisfy the equation and are normalized, for parameters of at most 1000; without a pair All returns the zero line. No condition beside the law's own guard. -/
import Derived.Test.YtpfkhinbehegbaaSayDiophantLines
import Derived.Test.YtpfkhinbehegbaaM7
set_option linter.unusedVariables false
namespace Go.Proofs.Ytpfkhinbehegbaa.Pure
open Go.RowKit Go.Proofs.YtpfkhinbehegbaaW.PrintWords Go.Proofs.Ytpfkhinbehegbaa.X

theorem gcd_zero_iff {A B : Int} : (Int.gcd A B : Int) = 0 ↔ A = 0 ∧ B = 0 := by
  rw [← Int.gcd_eq_zero_iff]; omega
theorem wrap_sum (a b : Int) : wrap64 (wrap64 a + wrap64 b) = wrap64 (a + b) := by unfold wrap64; omega
theorem tmod_1000 (x : Int) : -1000 < Int.tmod x 1000 ∧ Int.tmod x 1000 < 1000 := by
  rw [Int.tmod_eq_emod]; split <;> omega
theorem tail_f {A B DX DY kk : Int} (hk : -1000 < kk ∧ kk < 1000) (hx : 0 ≤ DX ∧ DX ≤ 2147483648) (hy : -2147483648 ≤ DY ∧ DY ≤ 2147483648) (h : A * DX + B * DY = 0) :
    wrap64 (wrap64 (A * wrap64 (kk * DX)) + wrap64 (B * wrap64 (kk * DY))) = 0 := by
  have hk1 := bound_mul (a := kk) (b := DX) (m := 1000) (n := 2147483648) (by omega) (by omega)
  have hk2 := bound_mul (a := kk) (b := DY) (m := 1000) (n := 2147483648) (by omega) (by omega)
  rw [w64 (x := kk * DX) (by omega) (by omega), w64 (x := kk * DY) (by omega) (by omega), wrap_sum]
  have : A * (kk * DX) + B * (kk * DY) = 0 := by
    have : A * (kk * DX) + B * (kk * DY) = kk * (A * DX + B * DY) := by grind
    rw [this, h, Int.mul_zero]
  rw [this]; exact w64 (by decide) (by decide)
theorem lines_1 {A B C xl xh yl yh sl sh X Y DX DY t : Int} {k : Nat} (hv : V A B C xl xh yl yh sl sh) (h0 : ¬ (A = 0 ∧ B = 0)) (hm : Int.tmod C (Int.gcd A B) = 0) (L : Line A B C X Y DX DY) :
    jacquardlaw24_DiophantLines.j1 (k + 1) t true (Int.gcd A B) false A B C xl xh yl yh sl sh X Y DX DY = some true := by
  have hA : C31 A := hv.1
  have hB : C31 B := hv.2.1
  have hgl := gcd_le hA hB
  have hgp := gcd_pos h0
  have hC : C.natAbs ≤ 2305843009213693952 := by unfold V at hv; omega
  simp only [jacquardlaw24_DiophantLines.j1]
  rw [if_neg (by simp), if_pos trivial]
  by_cases hB0 : B = 0
  · rw [if_pos hB0]
    have hdx : DX = 0 := by
      rcases Int.lt_trichotomy DX 0 with h | h | h
      · have := L.dx; omega
      · exact h
      · exact absurd hB0 (L.across (by omega)).1
    obtain ⟨_, hY, hD, hX⟩ := L.up hdx
    have hca := natAbs_tdiv_le C A
    rw [if_neg (fun h => h0 ⟨h, hB0⟩), w64 (by omega) (by omega), hX, hY, hD, hdx]
    simp
  · rw [if_neg hB0]
    have hdx : DX ≠ 0 := fun h => hB0 (L.up h).1
    obtain ⟨_, hac, hx0, hx1⟩ := L.across hdx
    have hdxb := L.dx
    have hyb := L.yb
    have hdyb := L.dy
    have e1 := L.on
    have e2 := L.dir
    have hBb : B.natAbs / Int.gcd A B ≤ B.natAbs := Nat.div_le_self _ _
    have hq : Int.tdiv (B.natAbs : Int) (Int.gcd A B : Int) = ((B.natAbs / Int.gcd A B : Nat) : Int) := rfl
    have hk := tmod_1000 (wrap64 t)
    rw [if_neg (by omega), if_neg (by omega), rabs_f (by unfold C31 at hB; omega) (by unfold C31 at hB; omega), Option.bind_some, if_neg (by omega), hq]
    generalize Int.tmod (wrap64 t) 1000 = kk at *
    have hW0 : wrap64 ((B.natAbs / Int.gcd A B : Nat) : Int) = ((B.natAbs / Int.gcd A B : Nat) : Int) := by
      unfold C31 at hB; exact w64 (by omega) (by omega)
    rw [hW0, if_pos hac, wrap_sum, e2, if_pos (w64 (by decide) (by decide))]
    rw [w64_ax hA hx0 hx1 hdxb.2, Int.sub_eq_iff_eq_add'.2 e1.symm, w64_by hA hx0 hx1 hdxb.2 hC e1]
    rw [if_pos (Int.tmod_eq_zero_of_dvd (Int.dvd_mul_right B Y)), Int.mul_tdiv_cancel_left _ hB0, if_pos (w64 (Int.le_trans (by decide) hyb.1) (Int.le_trans hyb.2 (by decide))).symm]
    rw [tail_f hk hdxb hdyb e2]; rfl
theorem DiophantLines : Say.DiophantLines := by
  intro A B C xl xh yl yh sl sh t _ _ _ _ _ _ _ _ _ _
  refine ⟨2147483700, ?_⟩
  unfold jacquardlaw24_DiophantLines.f
  rw [awake_f (by omega), Option.bind_some, if_pos rfl, rvalid_f, Option.bind_some]
  simp only [jacquardlaw24_DiophantLines.j0]
  by_cases hv : V A B C xl xh yl yh sl sh
  · have hA : C31 A := hv.1
    have hB : C31 B := hv.2.1
    rw [if_neg (by simp [hv])]
    by_cases h0 : A = 0 ∧ B = 0
    · rw [all_none (by omega) (.inr h0), Option.bind_some, rgcd_f _ (by unfold C31 at hA; omega) (by unfold C31 at hB; omega) (by omega), Option.bind_some, if_pos (gcd_zero_iff.2 h0)]
      simp [jacquardlaw24_DiophantLines.j1]
    · have hg : ¬ (Int.gcd A B : Int) = 0 := fun h => h0 (gcd_zero_iff.1 h)
      rcases all_f (k := 2147483699) (by omega) hv h0 with ⟨hm, ha⟩ | ⟨hm, X, Y, DX, DY, ha, L⟩
      · rw [ha, Option.bind_some, rgcd_f _ (by unfold C31 at hA; omega) (by unfold C31 at hB; omega) (by omega), Option.bind_some, if_neg hg, show (Int.tmod C (Int.gcd A B) != 0) = true from bne_iff_ne.2 hm]
        simp [jacquardlaw24_DiophantLines.j1]
      · rw [ha, Option.bind_some, rgcd_f _ (by unfold C31 at hA; omega) (by unfold C31 at hB; omega) (by omega), Option.bind_some, if_neg hg, show (Int.tmod C (Int.gcd A B) != 0) = false from by rw [hm]; rfl]
        exact lines_1 (k := 2147483698) hv h0 hm L
  · rw [if_pos (by rw [decide_eq_false hv]; rfl), awake_f (by omega), Option.bind_some]
end Go.Proofs.Ytpfkhinbehegbaa.Pure
