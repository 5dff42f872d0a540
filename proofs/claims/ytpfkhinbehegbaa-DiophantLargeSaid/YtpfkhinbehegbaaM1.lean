/- Plain mathematics for layer 24: limits, Euclid's algorithm and its extension. -/
import Derived.Test.YtpfkhinbehegbaaXx5
import Derived.Test.YtpfkhinbehegbaaXx15
import Derived.Test.YtpfkhinbehegbaaXx16
import Derived.Test.YtpfkhinbehegbaaXx17
import Derived.Test.YtpfkhinbehegbaaXx18
namespace Go.Proofs.Ytpfkhinbehegbaa.X
open Go.RowKit Go.Proofs.YtpfkhinbehegbaaW.PrintWords Go.Proofs.YtpfkhinbehegbaaW.PrintLast Go.Proofs.YtpfkhinbehegbaaW.PrintMore

theorem w64 {x : Int} (h0 : -9223372036854775808 ≤ x) (h1 : x ≤ 9223372036854775807) : wrap64 x = x := by unfold wrap64; omega

theorem w64n {n : Nat} (h : n ≤ 2147483648) : wrap64 (n : Int) = n := w64 (by omega) (by omega)
theorem w64e {e : Int} {n : Nat} (he : e = 1 ∨ e = -1) (h : n ≤ 2147483648) : wrap64 (e * (n : Int)) = e * n := by
  rcases he with rfl | rfl <;> exact w64 (by omega) (by omega)
theorem w64ne {e : Int} {n : Nat} (he : e = 1 ∨ e = -1) (h : n ≤ 2147483648) : wrap64 (-(e * (n : Int))) = -(e * n) := by
  rcases he with rfl | rfl <;> exact w64 (by omega) (by omega)
theorem mx_def (a b : Int) : mx a b = max a b := by unfold mx; omega
theorem mn_def (a b : Int) : mn a b = min a b := by unfold mn; omega

/-- a number limited to the range of coefficients -/
def lim (a : Int) : Int := min (max a (-2147483648)) 2147483648
theorem lim_range (a : Int) : -2147483648 ≤ lim a ∧ lim a ≤ 2147483648 := by unfold lim; omega
theorem lim_id {a : Int} (h0 : -2147483648 ≤ a) (h1 : a ≤ 2147483648) : lim a = a := by unfold lim; omega
theorem limit_f (a : Int) : diophant_limit.f a = some (lim a) := by
  unfold diophant_limit.f lim; rw [mx_def, mn_def]
theorem rlimit_f (a : Int) : jacquardref24_Limit.f a = some (lim a) := by
  unfold jacquardref24_Limit.f lim; rw [mx_def, mn_def]
theorem abs_f {a : Int} (h0 : -9223372036854775807 ≤ a) (h1 : a ≤ 9223372036854775807) : diophant_abs.f a = some (a.natAbs : Int) := by
  unfold diophant_abs.f; rw [w64 (by omega) (by omega), mx_def]; congr 1; omega
theorem rabs_f {a : Int} (h0 : -9223372036854775807 ≤ a) (h1 : a ≤ 9223372036854775807) : jacquardref24_Abs.f a = some (a.natAbs : Int) := by
  unfold jacquardref24_Abs.f; split <;> (try rw [w64 (by omega) (by omega)]) <;> congr 1 <;> omega

/-- the reference's Euclid -/
theorem rgcd_l0 : ∀ (n : Nat) (k : Nat) (x y : Nat), y ≤ n → n < k → jacquardref24_Gcd.l0 k (x : Int) (y : Int) = some (Nat.gcd x y : Int) := by
  intro n
  induction n with
  | zero =>
    intro k x y hy hk
    obtain ⟨k, rfl⟩ : ∃ m, k = m + 1 := ⟨k - 1, by omega⟩
    obtain rfl : y = 0 := by omega
    simp [jacquardref24_Gcd.l0]
  | succ n ih =>
    intro k x y hy hk
    obtain ⟨k, rfl⟩ : ∃ m, k = m + 1 := ⟨k - 1, by omega⟩
    by_cases h : y = 0
    · subst h; simp [jacquardref24_Gcd.l0]
    · simp only [jacquardref24_Gcd.l0]
      rw [if_neg (by omega)]
      have hm : Int.tmod (x : Int) (y : Int) = ((x % y : Nat) : Int) := rfl
      rw [hm, ih k y (x % y) (by have := Nat.mod_lt x (Nat.pos_of_ne_zero h); omega) (by omega)]
      rw [Nat.gcd_comm x y, Nat.gcd_rec y x, Nat.gcd_comm]
theorem rgcd_f (k : Nat) {a b : Int} (ha : a.natAbs ≤ 2147483648) (hb : b.natAbs ≤ 2147483648) (hk : 2147483648 < k) : jacquardref24_Gcd.f k a b = some (Int.gcd a b : Int) := by
  unfold jacquardref24_Gcd.f
  rw [rabs_f (by omega) (by omega), Option.bind_some, rabs_f (by omega) (by omega), Option.bind_some, rgcd_l0 b.natAbs k _ _ (Nat.le_refl _) (by omega)]
  rfl


theorem tdiv_nat (x y : Nat) : Int.tdiv (x : Int) (y : Int) = ((x / y : Nat) : Int) := rfl
theorem mul_le_of {a b m : Nat} (h : a * b ≤ m) (hb : 0 < b) : a ≤ m := Nat.le_trans (Nat.le_mul_of_pos_right a hb) h
theorem egcd_end (a b S T : Int) (A B : Nat) (x : Nat) (u v : Int) (k : Nat) (hA : a.natAbs = A) (hB : b.natAbs = B) (h1 : S * A + T * B = x) (hS : S.natAbs ≤ 2147483648) (hT : T.natAbs ≤ 2147483648) :
    ∃ s t : Int, diophant_Gcd.l0 (k + 1) a b S T x (0 : Nat) u v = some ((x : Int), s, t) ∧ s * a + t * b = x ∧ s.natAbs ≤ 2147483648 ∧ t.natAbs ≤ 2147483648 := by
  have w1 : wrap64 (-S) = -S := w64 (by omega) (by omega)
  have w2 : wrap64 (-T) = -T := w64 (by omega) (by omega)
  simp only [diophant_Gcd.l0]
  rw [if_pos (by simp), w1, w2]
  by_cases ha : a < 0 <;> by_cases hb : b < 0
  · rw [if_pos ha, if_pos hb]
    refine ⟨-S, -T, rfl, ?_, by omega, by omega⟩
    have e1 : a = -(A : Int) := by omega
    have e2 : b = -(B : Int) := by omega
    rw [e1, e2, Int.neg_mul_neg, Int.neg_mul_neg]; exact h1
  · rw [if_pos ha, if_neg hb]
    refine ⟨-S, T, rfl, ?_, by omega, by omega⟩
    have e1 : a = -(A : Int) := by omega
    have e2 : b = (B : Int) := by omega
    rw [e1, e2, Int.neg_mul_neg]; exact h1
  · rw [if_neg ha, if_pos hb]
    refine ⟨S, -T, rfl, ?_, by omega, by omega⟩
    have e1 : a = (A : Int) := by omega
    have e2 : b = -(B : Int) := by omega
    rw [e1, e2, Int.neg_mul_neg]; exact h1
  · rw [if_neg ha, if_neg hb]
    refine ⟨S, T, rfl, ?_, by omega, by omega⟩
    have e1 : a = (A : Int) := by omega
    have e2 : b = (B : Int) := by omega
    rw [e1, e2]; exact h1

/-- extended Euclid: the loop's invariant; e is 1 or -1 -/
theorem egcd_l0 (a b : Int) (A B : Nat) (hA : a.natAbs = A) (hB : b.natAbs = B) (hA2 : A ≤ 2147483648) (hB2 : B ≤ 2147483648) :
    ∀ (n : Nat) (k : Nat) (x y s' t' u' v' : Nat) (e : Int), y ≤ n → n < k → (e = 1 ∨ e = -1) →
      e * (s' * A) - e * (t' * B) = x → e * (v' * B) - e * (u' * A) = y → Nat.gcd x y = Nat.gcd A B →
      s' * y + u' * x = B → t' * y + v' * x = A → s' ≤ 2147483648 → t' ≤ 2147483648 → u' ≤ 2147483648 → v' ≤ 2147483648 → x ≤ 2147483648 → y ≤ 2147483648 →
      ∃ s t : Int, diophant_Gcd.l0 k a b (e * s') (-(e * t')) x y (-(e * u')) (e * v') = some (((Nat.gcd A B : Nat) : Int), s, t) ∧ s * a + t * b = (Nat.gcd A B : Nat) ∧ s.natAbs ≤ 2147483648 ∧ t.natAbs ≤ 2147483648 := by
  intro n
  induction n with
  | zero =>
    intro k x y s' t' u' v' e hy hk he h1 h2 hg h3 h4 hs ht hu hv hx hy2
    obtain ⟨k, rfl⟩ : ∃ m, k = m + 1 := ⟨k - 1, by omega⟩
    obtain rfl : y = 0 := by omega
    have hg' : Nat.gcd A B = x := by rw [← hg]; simp
    rw [hg']
    exact egcd_end a b _ _ A B x _ _ k hA hB (by rw [← h1]; grind) (by rcases he with rfl | rfl <;> omega) (by rcases he with rfl | rfl <;> omega)
  | succ n ih =>
    intro k x y s' t' u' v' e hy hk he h1 h2 hg h3 h4 hs ht hu hv hx hy2
    obtain ⟨k, rfl⟩ : ∃ m, k = m + 1 := ⟨k - 1, by omega⟩
    by_cases h0 : y = 0
    · subst h0
      have hg' : Nat.gcd A B = x := by rw [← hg]; simp
      rw [hg']
      exact egcd_end a b _ _ A B x _ _ k hA hB (by rw [← h1]; grind) (by rcases he with rfl | rfl <;> omega) (by rcases he with rfl | rfl <;> omega)
    · have hdm := Nat.div_add_mod x y
      have hlt := Nat.mod_lt x (Nat.pos_of_ne_zero h0)
      simp only [diophant_Gcd.l0]
      rw [if_neg (by omega), tdiv_nat]
      have hq0 : x / y ≤ x := Nat.div_le_self _ _
      generalize hqe : x / y = q at *
      generalize hre : x % y = r at *
      have hqy : q * y ≤ x := by rw [Nat.mul_comm]; omega
      have nB : u' * r + (s' + q * u') * y = B := by rw [← h3, ← hdm]; grind
      have nA : v' * r + (t' + q * v') * y = A := by rw [← h4, ← hdm]; grind
      have hy1 : 0 < y := by omega
      have bu : s' + q * u' ≤ 2147483648 := Nat.le_trans (mul_le_of (m := B) (by omega) hy1) hB2
      have bv : t' + q * v' ≤ 2147483648 := Nat.le_trans (mul_le_of (m := A) (by omega) hy1) hA2
      have hih := ih k y r u' v' (s' + q * u') (t' + q * v') (-e) (by omega) (by omega) (by omega) (by rw [← h2]; grind)
        (by
          have : (r : Int) = x - q * y := by rw [← hdm]; push_cast; grind
          rw [this, ← h1, ← h2]; push_cast; grind)
        (by rw [← hg, ← hre, Nat.gcd_comm x y, Nat.gcd_rec y x, Nat.gcd_comm]) nB nA hu hv bu bv hy2 (by omega)
      have hq2 : q ≤ 2147483648 := Nat.le_trans hq0 hx
      have hqy2 : q * y ≤ 2147483648 := Nat.le_trans hqy hx
      have hr2 : r ≤ 2147483648 := Nat.le_trans (Nat.le_of_lt hlt) hy2
      have hu2 : q * u' ≤ 2147483648 := Nat.le_trans (Nat.le_add_left _ _) bu
      have hv2 : q * v' ≤ 2147483648 := Nat.le_trans (Nat.le_add_left _ _) bv
      have he2 : -e = 1 ∨ -e = -1 := by rcases he with rfl | rfl; exact .inr rfl; exact .inl rfl
      clear ih hg hqe hre
      have W1 : wrap64 (q : Int) = q := w64n hq2
      have W2 : wrap64 ((q : Int) * y) = q * y := by
        rw [← Int.natCast_mul]; exact w64n hqy2
      have W3 : wrap64 ((x : Int) - q * y) = r := by
        rw [show (x : Int) - q * y = r by rw [← hdm]; push_cast; grind]; exact w64n hr2
      have U1 : wrap64 ((q : Int) * -(e * u')) = q * -(e * u') := by
        rw [show (q : Int) * -(e * u') = -(e * ((q * u' : Nat) : Int)) by push_cast; grind]
        exact w64ne he hu2
      have U2 : wrap64 (e * s' - (q : Int) * -(e * u')) = -(-e * ((s' + q * u' : Nat) : Int)) := by
        rw [show e * s' - (q : Int) * -(e * u') = -(-e * ((s' + q * u' : Nat) : Int)) by push_cast; grind]
        exact w64ne he2 bu
      have V1 : wrap64 ((q : Int) * (e * v')) = q * (e * v') := by
        rw [show (q : Int) * (e * v') = (e * ((q * v' : Nat) : Int)) by push_cast; grind]
        exact w64e he hv2
      have V2 : wrap64 (-(e * t') - (q : Int) * (e * v')) = (-e * ((t' + q * v' : Nat) : Int)) := by
        rw [show -(e * t') - (q : Int) * (e * v') = (-e * ((t' + q * v' : Nat) : Int)) by push_cast; grind]
        exact w64e he2 bv
      rw [W1, W2, W3, U1, U2, V1, V2]
      rw [show -(e * (u' : Int)) = -e * u' by grind, show e * (v' : Int) = -(-e * v') by grind]
      exact hih

theorem gcd_f (k : Nat) (a b : Int) (hk : 2147483648 < k) : ∃ s t : Int, diophant_Gcd.f k a b = some (((Int.gcd (lim a) (lim b) : Nat) : Int), s, t) ∧ s * lim a + t * lim b = (Int.gcd (lim a) (lim b) : Nat) ∧ s.natAbs ≤ 2147483648 ∧ t.natAbs ≤ 2147483648 := by
  have ha := lim_range a
  have hb := lim_range b
  unfold diophant_Gcd.f
  rw [limit_f, Option.bind_some, limit_f, Option.bind_some, abs_f (by omega) (by omega), Option.bind_some, abs_f (by omega) (by omega), Option.bind_some]
  obtain ⟨s, t, h⟩ := egcd_l0 (lim a) (lim b) _ _ rfl rfl (by omega) (by omega) (lim b).natAbs k (lim a).natAbs (lim b).natAbs 1 0 0 1 1 (Nat.le_refl _) (by omega) (.inl rfl) (by simp) (by simp) rfl (by simp) (by simp) (by omega) (by omega) (by omega) (by omega) (by omega) (by omega)
  refine ⟨s, t, ?_⟩
  simpa [Int.gcd] using h

theorem awake_100 : jacquardlaw24_awake.f 100 = some true := by decide +kernel
theorem awake_f {k : Nat} (hk : 100 ≤ k) : jacquardlaw24_awake.f k = some true := by
  obtain ⟨d, rfl⟩ := Nat.exists_eq_add_of_le hk
  induction d with
  | zero => exact awake_100
  | succ d ih => exact jacquardlaw24_awake.mono _ _ (ih (by omega))
end Go.Proofs.Ytpfkhinbehegbaa.X
