/- Plain mathematics for layer 24: validity, remainders, the line of all solutions. -/
import Derived.Test.YtpfkhinbehegbaaM1
import Derived.Test.YtpfkhinbehegbaaXx6
import Derived.Test.YtpfkhinbehegbaaXx10
import Derived.Test.YtpfkhinbehegbaaXx21
namespace Go.Proofs.Ytpfkhinbehegbaa.X
open Go.RowKit Go.Proofs.YtpfkhinbehegbaaW.PrintWords Go.Proofs.YtpfkhinbehegbaaW.PrintLast Go.Proofs.YtpfkhinbehegbaaW.PrintMore

def C31 (n : Int) : Prop := -2147483648 ≤ n ∧ n ≤ 2147483648
instance (n : Int) : Decidable (C31 n) := by unfold C31; infer_instance
/-- a valid equation -/
def V (A B C xl xh yl yh sl sh : Int) : Prop := C31 A ∧ C31 B ∧ C31 xl ∧ C31 xh ∧ C31 yl ∧ C31 yh ∧ C31 sl ∧ C31 sh ∧ -2305843009213693952 ≤ C ∧ C ≤ 2305843009213693952
instance (A B C xl xh yl yh sl sh : Int) : Decidable (V A B C xl xh yl yh sl sh) := by unfold V; infer_instance

theorem valid_l0 (xs : List Int) (hn : xs.length < 1000) (a0 a1 a2 a3 a4 a5 a6 a7 a8 : Int) : ∀ (d k i : Nat), xs.length - i = d → i ≤ xs.length → d < k →
    diophant_Valid.l0 k xs xs.length i a0 a1 a2 a3 a4 a5 a6 a7 a8 = some (decide ((∀ x ∈ xs.drop i, C31 x) ∧ -2305843009213693952 ≤ a2 ∧ a2 ≤ 2305843009213693952)) := by
  intro d
  induction d with
  | zero =>
    intro k i h1 h2 hk
    obtain ⟨k, rfl⟩ : ∃ m, k = m + 1 := ⟨k - 1, by omega⟩
    have : i = xs.length := by omega
    subst this
    simp only [diophant_Valid.l0]
    rw [if_neg (by omega)]
    by_cases h : a2 ≥ -2305843009213693952
    · rw [if_pos h]; simp; omega
    · rw [if_neg h]; simp; omega
  | succ d ih =>
    intro k i h1 h2 hk
    obtain ⟨k, rfl⟩ : ∃ m, k = m + 1 := ⟨k - 1, by omega⟩
    have hi : i < xs.length := by omega
    have hrd : rd xs (i : Int) = xs[i] := by simp [rd, hi]
    have hdr : xs.drop i = xs[i] :: xs.drop (i + 1) := List.drop_eq_getElem_cons hi
    simp only [diophant_Valid.l0]
    rw [if_pos (by omega), if_pos (by omega), if_pos (by omega), hrd, show wrap64 ((i : Int) + 1) = ((i + 1 : Nat) : Int) by rw [w64 (by omega) (by omega)]; rfl, ih k (i + 1) (by omega) (by omega) (by omega)]
    rw [hdr]
    by_cases h3 : xs[i] < -2147483648
    · rw [if_pos h3]; congr 1; symm; apply decide_eq_false
      rintro ⟨h, _⟩; have := (h xs[i] List.mem_cons_self).1; omega
    · by_cases h4 : xs[i] > 2147483648
      · rw [if_neg h3, if_pos h4]; congr 1; symm; apply decide_eq_false
        rintro ⟨h, _⟩; have := (h xs[i] List.mem_cons_self).2; omega
      · rw [if_neg h3, if_neg h4]; congr 1
        have hx0 : C31 xs[i] := ⟨by omega, by omega⟩
        refine decide_eq_decide.2 ⟨fun ⟨h, h'⟩ => ⟨fun x hx => ?_, h'⟩, fun ⟨h, h'⟩ => ⟨fun x hx => h x (List.mem_cons_of_mem _ hx), h'⟩⟩
        rcases List.mem_cons.1 hx with rfl | hx
        · exact hx0
        · exact h x hx
theorem valid_f {k : Nat} (hk : 9 ≤ k) (a0 a1 a2 a3 a4 a5 a6 a7 a8 : Int) : diophant_Valid.f k a0 a1 a2 a3 a4 a5 a6 a7 a8 = some (decide (V a0 a1 a2 a3 a4 a5 a6 a7 a8)) := by
  unfold diophant_Valid.f
  rw [Option.bind_some]
  have := valid_l0 [a0, a1, a3, a4, a5, a6, a7, a8] (by simp) a0 a1 a2 a3 a4 a5 a6 a7 a8 8 k 0 rfl (by simp) (by omega)
  refine this.trans ?_
  congr 1
  simp only [List.drop_zero, List.mem_cons, List.not_mem_nil, or_false, forall_eq_or_imp, forall_eq, V]
  exact decide_eq_decide.2 (by grind)
theorem rwithin_f {a n : Int} (h0 : 0 ≤ n) (h1 : n ≤ 2305843009213693952) : jacquardref24_within.f a n = some (decide (-n ≤ a ∧ a ≤ n)) := by
  unfold jacquardref24_within.f
  rw [w64 (by omega) (by omega)]
  by_cases h : a ≥ -n
  · rw [if_pos h]; simp; omega
  · rw [if_neg h]; simp; omega
theorem rvalid_f (a0 a1 a2 a3 a4 a5 a6 a7 a8 : Int) : jacquardref24_Valid.f a0 a1 a2 a3 a4 a5 a6 a7 a8 = some (decide (V a0 a1 a2 a3 a4 a5 a6 a7 a8)) := by
  unfold jacquardref24_Valid.f
  simp only [rwithin_f (n := 2147483648) (by decide) (by decide), rwithin_f (n := 2305843009213693952) (by decide) (by decide), Option.bind_some, decide_eq_true_eq]
  unfold V C31
  repeat' split
  all_goals first | (congr 1; exact decide_eq_decide.2 (by omega)) | (congr 1; exact (decide_eq_false (by omega)).symm)

theorem tmod_fix {n d : Int} (hd : 0 < d) : (if Int.tmod n d < 0 then Int.tmod n d + d else Int.tmod n d) = n % d := by
  have h0 := Int.emod_nonneg n (show d ≠ 0 by omega)
  have h1 := Int.emod_lt_of_pos n hd
  rw [Int.tmod_eq_emod]
  split <;> split <;> omega
theorem modulo_f {n d : Int} (hd : 0 < d) (hd2 : d ≤ 9223372036854775807) : diophant_modulo.f n d = some (n % d) := by
  unfold diophant_modulo.f
  have h0 := Int.emod_nonneg n (show d ≠ 0 by omega)
  have h1 := Int.emod_lt_of_pos n hd
  rw [if_neg (by omega), ← tmod_fix hd]
  have ht := tmod_fix (n := n) hd
  split
  · rename_i h
    rw [if_pos h] at ht
    rw [w64 (by omega) (by omega)]
  · rfl
theorem floor_f {n d : Int} (hd : 0 < d) (hd2 : d ≤ 4611686018427387904) (h0 : -4611686018427387904 ≤ n) (h1 : n ≤ 4611686018427387904) : diophant_floor.f n d = some (n / d) := by
  unfold diophant_floor.f
  have g0 := Int.emod_nonneg n (show d ≠ 0 by omega)
  have g1 := Int.emod_lt_of_pos n hd
  have hq : n - n % d = d * (n / d) := by have := Int.mul_ediv_add_emod n d; omega
  rw [modulo_f hd (by omega), Option.bind_some, if_neg (by omega), w64 (x := n - n % d) (by omega) (by omega), hq, Int.mul_tdiv_cancel_left _ (by omega)]
  have hlo : -4611686018427387904 ≤ n / d := by
    have := Int.ediv_nonneg (a := n + 4611686018427387904 * d) (b := d)
    have h2 : -4611686018427387904 * d ≤ n := Int.le_trans (by omega) h0
    exact Int.le_ediv_of_mul_le hd h2
  have hhi : n / d ≤ 4611686018427387904 := by
    refine Int.le_of_lt_add_one (Int.ediv_lt_of_lt_mul hd ?_)
    omega
  rw [w64 (by omega) (by omega)]
end Go.Proofs.Ytpfkhinbehegbaa.X
