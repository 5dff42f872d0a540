/- Plain mathematics for layer 24: limits, Euclid's algorithm and its extension. -/
import Derived.Test.YtpfkhinbehegbaaXx5
import Derived.Test.YtpfkhinbehegbaaXx15
import Derived.Test.YtpfkhinbehegbaaXx16
import Derived.Test.YtpfkhinbehegbaaXx17
import Derived.Test.YtpfkhinbehegbaaXx18
import Derived.Test.YtpfkhinbehegbaaXx6
import Derived.Test.YtpfkhinbehegbaaXx10
import Derived.Test.YtpfkhinbehegbaaXx21
import Derived.Test.YtpfkhinbehegbaaXx8
namespace Go.Proofs.Ytpfkhinbehegbaa.X
open Go.RowKit Go.Proofs.YtpfkhinbehegbaaW.PrintWords Go.Proofs.YtpfkhinbehegbaaW.PrintLast Go.Proofs.YtpfkhinbehegbaaW.PrintMore

theorem w64 {x : Int} (h0 : -9223372036854775808 ≤ x) (h1 : x ≤ 9223372036854775807) : wrap64 x = x := by unfold wrap64; omega

theorem w64n {n : Nat} (h : n ≤ 2147483648) : wrap64 (n : Int) = n := w64 (by omega) (by omega)
theorem w64e {e : Int} {n : Nat} (he : e = 1 ∨ e = -1) (h : n ≤ 2147483648) : wrap64 (e * (n : Int)) = e * n := by
  rcases he with rfl | rfl <;> exact w64 (by omega) (by omega)
theorem w64ne {e : Int} {n : Nat} (he : e = 1 ∨ e = -1) (h : n ≤ 2147483648) : wrap64 (-(e * (n : Int))) = -(e * n) := by
  rcases he with rfl | rfl <;> exact w64 (by omega) (by omega)
theorem mx_def (a b : Int) : mx a b = max a b := by unfold mx; omega
theorem mn_def (a b : Int) : mn a b = min a b := by unfold mn; omega

/-- a number limited to the range of coefficients -/
def lim (a : Int) : Int := min (max a (-2147483648)) 2147483648
theorem lim_range (a : Int) : -2147483648 ≤ lim a ∧ lim a ≤ 2147483648 := by unfold lim; omega
theorem lim_id {a : Int} (h0 : -2147483648 ≤ a) (h1 : a ≤ 2147483648) : lim a = a := by unfold lim; omega
theorem limit_f (a : Int) : diophant_limit.f a = some (lim a) := by
  unfold diophant_limit.f lim; rw [mx_def, mn_def]
theorem rlimit_f (a : Int) : jacquardref24_Limit.f a = some (lim a) := by
  unfold jacquardref24_Limit.f lim; rw [mx_def, mn_def]
theorem abs_f {a : Int} (h0 : -9223372036854775807 ≤ a) (h1 : a ≤ 9223372036854775807) : diophant_abs.f a = some (a.natAbs : Int) := by
  unfold diophant_abs.f; rw [w64 (by omega) (by omega), mx_def]; congr 1; omega
theorem rabs_f {a : Int} (h0 : -9223372036854775807 ≤ a) (h1 : a ≤ 9223372036854775807) : jacquardref24_Abs.f a = some (a.natAbs : Int) := by
  unfold jacquardref24_Abs.f; split <;> (try rw [w64 (by omega) (by omega)]) <;> congr 1 <;> omega

/-- the reference's Euclid -/
theorem rgcd_l0 : ∀ (n : Nat) (k : Nat) (x y : Nat), y ≤ n → n < k → jacquardref24_Gcd.l0 k (x : Int) (y : Int) = some (Nat.gcd x y : Int) := by
  intro n
  induction n with
  | zero =>
    intro k x y hy hk
    obtain ⟨k, rfl⟩ : ∃ m, k = m + 1 := ⟨k - 1, by omega⟩
    obtain rfl : y = 0 := by omega
    simp [jacquardref24_Gcd.l0]
  | succ n ih =>
    intro k x y hy hk
    obtain ⟨k, rfl⟩ : ∃ m, k = m + 1 := ⟨k - 1, by omega⟩
    by_cases h : y = 0
    · subst h; simp [jacquardref24_Gcd.l0]
    · simp only [jacquardref24_Gcd.l0]
      rw [if_neg (by omega)]
      have hm : Int.tmod (x : Int) (y : Int) = ((x % y : Nat) : Int) := rfl
      rw [hm, ih k y (x % y) (by have := Nat.mod_lt x (Nat.pos_of_ne_zero h); omega) (by omega)]
      rw [Nat.gcd_comm x y, Nat.gcd_rec y x, Nat.gcd_comm]
theorem rgcd_f (k : Nat) {a b : Int} (ha : a.natAbs ≤ 2147483648) (hb : b.natAbs ≤ 2147483648) (hk : 2147483648 < k) : jacquardref24_Gcd.f k a b = some (Int.gcd a b : Int) := by
  unfold jacquardref24_Gcd.f
  rw [rabs_f (by omega) (by omega), Option.bind_some, rabs_f (by omega) (by omega), Option.bind_some, rgcd_l0 b.natAbs k _ _ (Nat.le_refl _) (by omega)]
  rfl


theorem tdiv_nat (x y : Nat) : Int.tdiv (x : Int) (y : Int) = ((x / y : Nat) : Int) := rfl
theorem mul_le_of {a b m : Nat} (h : a * b ≤ m) (hb : 0 < b) : a ≤ m := Nat.le_trans (Nat.le_mul_of_pos_right a hb) h
theorem egcd_end (a b S T : Int) (A B : Nat) (x : Nat) (u v : Int) (k : Nat) (hA : a.natAbs = A) (hB : b.natAbs = B) (h1 : S * A + T * B = x) (hS : S.natAbs ≤ 2147483648) (hT : T.natAbs ≤ 2147483648) :
    ∃ s t : Int, diophant_Gcd.l0 (k + 1) a b S T x (0 : Nat) u v = some ((x : Int), s, t) ∧ s * a + t * b = x ∧ s.natAbs ≤ 2147483648 ∧ t.natAbs ≤ 2147483648 := by
  have w1 : wrap64 (-S) = -S := w64 (by omega) (by omega)
  have w2 : wrap64 (-T) = -T := w64 (by omega) (by omega)
  simp only [diophant_Gcd.l0]
  rw [if_pos (by simp), w1, w2]
  by_cases ha : a < 0 <;> by_cases hb : b < 0
  · rw [if_pos ha, if_pos hb]
    refine ⟨-S, -T, rfl, ?_, by omega, by omega⟩
    have e1 : a = -(A : Int) := by omega
    have e2 : b = -(B : Int) := by omega
    rw [e1, e2, Int.neg_mul_neg, Int.neg_mul_neg]; exact h1
  · rw [if_pos ha, if_neg hb]
    refine ⟨-S, T, rfl, ?_, by omega, by omega⟩
    have e1 : a = -(A : Int) := by omega
    have e2 : b = (B : Int) := by omega
    rw [e1, e2, Int.neg_mul_neg]; exact h1
  · rw [if_neg ha, if_pos hb]
    refine ⟨S, -T, rfl, ?_, by omega, by omega⟩
    have e1 : a = (A : Int) := by omega
    have e2 : b = -(B : Int) := by omega
    rw [e1, e2, Int.neg_mul_neg]; exact h1
  · rw [if_neg ha, if_neg hb]
    refine ⟨S, T, rfl, ?_, by omega, by omega⟩
    have e1 : a = (A : Int) := by omega
    have e2 : b = (B : Int) := by omega
    rw [e1, e2]; exact h1

/-- extended Euclid: the loop's invariant; e is 1 or -1 -/
theorem egcd_l0 (a b : Int) (A B : Nat) (hA : a.natAbs = A) (hB : b.natAbs = B) (hA2 : A ≤ 2147483648) (hB2 : B ≤ 2147483648) :
    ∀ (n : Nat) (k : Nat) (x y s' t' u' v' : Nat) (e : Int), y ≤ n → n < k → (e = 1 ∨ e = -1) →
      e * (s' * A) - e * (t' * B) = x → e * (v' * B) - e * (u' * A) = y → Nat.gcd x y = Nat.gcd A B →
      s' * y + u' * x = B → t' * y + v' * x = A → s' ≤ 2147483648 → t' ≤ 2147483648 → u' ≤ 2147483648 → v' ≤ 2147483648 → x ≤ 2147483648 → y ≤ 2147483648 →
      ∃ s t : Int, diophant_Gcd.l0 k a b (e * s') (-(e * t')) x y (-(e * u')) (e * v') = some (((Nat.gcd A B : Nat) : Int), s, t) ∧ s * a + t * b = (Nat.gcd A B : Nat) ∧ s.natAbs ≤ 2147483648 ∧ t.natAbs ≤ 2147483648 := by
  intro n
  induction n with
  | zero =>
    intro k x y s' t' u' v' e hy hk he h1 h2 hg h3 h4 hs ht hu hv hx hy2
    obtain ⟨k, rfl⟩ : ∃ m, k = m + 1 := ⟨k - 1, by omega⟩
    obtain rfl : y = 0 := by omega
    have hg' : Nat.gcd A B = x := by rw [← hg]; simp
    rw [hg']
    exact egcd_end a b _ _ A B x _ _ k hA hB (by rw [← h1]; grind) (by rcases he with rfl | rfl <;> omega) (by rcases he with rfl | rfl <;> omega)
  | succ n ih =>
    intro k x y s' t' u' v' e hy hk he h1 h2 hg h3 h4 hs ht hu hv hx hy2
    obtain ⟨k, rfl⟩ : ∃ m, k = m + 1 := ⟨k - 1, by omega⟩
    by_cases h0 : y = 0
    · subst h0
      have hg' : Nat.gcd A B = x := by rw [← hg]; simp
      rw [hg']
      exact egcd_end a b _ _ A B x _ _ k hA hB (by rw [← h1]; grind) (by rcases he with rfl | rfl <;> omega) (by rcases he with rfl | rfl <;> omega)
    · have hdm := Nat.div_add_mod x y
      have hlt := Nat.mod_lt x (Nat.pos_of_ne_zero h0)
      simp only [diophant_Gcd.l0]
      rw [if_neg (by omega), tdiv_nat]
      have hq0 : x / y ≤ x := Nat.div_le_self _ _
      generalize hqe : x / y = q at *
      generalize hre : x % y = r at *
      have hqy : q * y ≤ x := by rw [Nat.mul_comm]; omega
      have nB : u' * r + (s' + q * u') * y = B := by rw [← h3, ← hdm]; grind
      have nA : v' * r + (t' + q * v') * y = A := by rw [← h4, ← hdm]; grind
      have hy1 : 0 < y := by omega
      have bu : s' + q * u' ≤ 2147483648 := Nat.le_trans (mul_le_of (m := B) (by omega) hy1) hB2
      have bv : t' + q * v' ≤ 2147483648 := Nat.le_trans (mul_le_of (m := A) (by omega) hy1) hA2
      have hih := ih k y r u' v' (s' + q * u') (t' + q * v') (-e) (by omega) (by omega) (by omega) (by rw [← h2]; grind)
        (by
          have : (r : Int) = x - q * y := by rw [← hdm]; push_cast; grind
          rw [this, ← h1, ← h2]; push_cast; grind)
        (by rw [← hg, ← hre, Nat.gcd_comm x y, Nat.gcd_rec y x, Nat.gcd_comm]) nB nA hu hv bu bv hy2 (by omega)
      have hq2 : q ≤ 2147483648 := Nat.le_trans hq0 hx
      have hqy2 : q * y ≤ 2147483648 := Nat.le_trans hqy hx
      have hr2 : r ≤ 2147483648 := Nat.le_trans (Nat.le_of_lt hlt) hy2
      have hu2 : q * u' ≤ 2147483648 := Nat.le_trans (Nat.le_add_left _ _) bu
      have hv2 : q * v' ≤ 2147483648 := Nat.le_trans (Nat.le_add_left _ _) bv
      have he2 : -e = 1 ∨ -e = -1 := by rcases he with rfl | rfl; exact .inr rfl; exact .inl rfl
      clear ih hg hqe hre
      have W1 : wrap64 (q : Int) = q := w64n hq2
      have W2 : wrap64 ((q : Int) * y) = q * y := by
        rw [← Int.natCast_mul]; exact w64n hqy2
      have W3 : wrap64 ((x : Int) - q * y) = r := by
        rw [show (x : Int) - q * y = r by rw [← hdm]; push_cast; grind]; exact w64n hr2
      have U1 : wrap64 ((q : Int) * -(e * u')) = q * -(e * u') := by
        rw [show (q : Int) * -(e * u') = -(e * ((q * u' : Nat) : Int)) by push_cast; grind]
        exact w64ne he hu2
      have U2 : wrap64 (e * s' - (q : Int) * -(e * u')) = -(-e * ((s' + q * u' : Nat) : Int)) := by
        rw [show e * s' - (q : Int) * -(e * u') = -(-e * ((s' + q * u' : Nat) : Int)) by push_cast; grind]
        exact w64ne he2 bu
      have V1 : wrap64 ((q : Int) * (e * v')) = q * (e * v') := by
        rw [show (q : Int) * (e * v') = (e * ((q * v' : Nat) : Int)) by push_cast; grind]
        exact w64e he hv2
      have V2 : wrap64 (-(e * t') - (q : Int) * (e * v')) = (-e * ((t' + q * v' : Nat) : Int)) := by
        rw [show -(e * t') - (q : Int) * (e * v') = (-e * ((t' + q * v' : Nat) : Int)) by push_cast; grind]
        exact w64e he2 bv
      rw [W1, W2, W3, U1, U2, V1, V2]
      rw [show -(e * (u' : Int)) = -e * u' by grind, show e * (v' : Int) = -(-e * v') by grind]
      exact hih

theorem gcd_f (k : Nat) (a b : Int) (hk : 2147483648 < k) : ∃ s t : Int, diophant_Gcd.f k a b = some (((Int.gcd (lim a) (lim b) : Nat) : Int), s, t) ∧ s * lim a + t * lim b = (Int.gcd (lim a) (lim b) : Nat) ∧ s.natAbs ≤ 2147483648 ∧ t.natAbs ≤ 2147483648 := by
  have ha := lim_range a
  have hb := lim_range b
  unfold diophant_Gcd.f
  rw [limit_f, Option.bind_some, limit_f, Option.bind_some, abs_f (by omega) (by omega), Option.bind_some, abs_f (by omega) (by omega), Option.bind_some]
  obtain ⟨s, t, h⟩ := egcd_l0 (lim a) (lim b) _ _ rfl rfl (by omega) (by omega) (lim b).natAbs k (lim a).natAbs (lim b).natAbs 1 0 0 1 1 (Nat.le_refl _) (by omega) (.inl rfl) (by simp) (by simp) rfl (by simp) (by simp) (by omega) (by omega) (by omega) (by omega) (by omega) (by omega)
  refine ⟨s, t, ?_⟩
  simpa [Int.gcd] using h

theorem awake_100 : jacquardlaw24_awake.f 100 = some true := by decide +kernel
theorem awake_f {k : Nat} (hk : 100 ≤ k) : jacquardlaw24_awake.f k = some true := by
  obtain ⟨d, rfl⟩ := Nat.exists_eq_add_of_le hk
  induction d with
  | zero => exact awake_100
  | succ d ih => exact jacquardlaw24_awake.mono _ _ (ih (by omega))
end Go.Proofs.Ytpfkhinbehegbaa.X

namespace Go.Proofs.Ytpfkhinbehegbaa.X
open Go.RowKit Go.Proofs.YtpfkhinbehegbaaW.PrintWords Go.Proofs.YtpfkhinbehegbaaW.PrintLast Go.Proofs.YtpfkhinbehegbaaW.PrintMore

def C31 (n : Int) : Prop := -2147483648 ≤ n ∧ n ≤ 2147483648
instance (n : Int) : Decidable (C31 n) := by unfold C31; infer_instance
/-- a valid equation -/
def V (A B C xl xh yl yh sl sh : Int) : Prop := C31 A ∧ C31 B ∧ C31 xl ∧ C31 xh ∧ C31 yl ∧ C31 yh ∧ C31 sl ∧ C31 sh ∧ -2305843009213693952 ≤ C ∧ C ≤ 2305843009213693952
instance (A B C xl xh yl yh sl sh : Int) : Decidable (V A B C xl xh yl yh sl sh) := by unfold V; infer_instance

theorem valid_l0 (xs : List Int) (hn : xs.length < 1000) (a0 a1 a2 a3 a4 a5 a6 a7 a8 : Int) : ∀ (d k i : Nat), xs.length - i = d → i ≤ xs.length → d < k →
    diophant_Valid.l0 k xs xs.length i a0 a1 a2 a3 a4 a5 a6 a7 a8 = some (decide ((∀ x ∈ xs.drop i, C31 x) ∧ -2305843009213693952 ≤ a2 ∧ a2 ≤ 2305843009213693952)) := by
  intro d
  induction d with
  | zero =>
    intro k i h1 h2 hk
    obtain ⟨k, rfl⟩ : ∃ m, k = m + 1 := ⟨k - 1, by omega⟩
    have : i = xs.length := by omega
    subst this
    simp only [diophant_Valid.l0]
    rw [if_neg (by omega)]
    by_cases h : a2 ≥ -2305843009213693952
    · rw [if_pos h]; simp; omega
    · rw [if_neg h]; simp; omega
  | succ d ih =>
    intro k i h1 h2 hk
    obtain ⟨k, rfl⟩ : ∃ m, k = m + 1 := ⟨k - 1, by omega⟩
    have hi : i < xs.length := by omega
    have hrd : rd xs (i : Int) = xs[i] := by simp [rd, hi]
    have hdr : xs.drop i = xs[i] :: xs.drop (i + 1) := List.drop_eq_getElem_cons hi
    simp only [diophant_Valid.l0]
    rw [if_pos (by omega), if_pos (by omega), if_pos (by omega), hrd, show wrap64 ((i : Int) + 1) = ((i + 1 : Nat) : Int) by rw [w64 (by omega) (by omega)]; rfl, ih k (i + 1) (by omega) (by omega) (by omega)]
    rw [hdr]
    by_cases h3 : xs[i] < -2147483648
    · rw [if_pos h3]; congr 1; symm; apply decide_eq_false
      rintro ⟨h, _⟩; have := (h xs[i] List.mem_cons_self).1; omega
    · by_cases h4 : xs[i] > 2147483648
      · rw [if_neg h3, if_pos h4]; congr 1; symm; apply decide_eq_false
        rintro ⟨h, _⟩; have := (h xs[i] List.mem_cons_self).2; omega
      · rw [if_neg h3, if_neg h4]; congr 1
        have hx0 : C31 xs[i] := ⟨by omega, by omega⟩
        refine decide_eq_decide.2 ⟨fun ⟨h, h'⟩ => ⟨fun x hx => ?_, h'⟩, fun ⟨h, h'⟩ => ⟨fun x hx => h x (List.mem_cons_of_mem _ hx), h'⟩⟩
        rcases List.mem_cons.1 hx with rfl | hx
        · exact hx0
        · exact h x hx
theorem valid_f {k : Nat} (hk : 9 ≤ k) (a0 a1 a2 a3 a4 a5 a6 a7 a8 : Int) : diophant_Valid.f k a0 a1 a2 a3 a4 a5 a6 a7 a8 = some (decide (V a0 a1 a2 a3 a4 a5 a6 a7 a8)) := by
  unfold diophant_Valid.f
  rw [Option.bind_some]
  have := valid_l0 [a0, a1, a3, a4, a5, a6, a7, a8] (by simp) a0 a1 a2 a3 a4 a5 a6 a7 a8 8 k 0 rfl (by simp) (by omega)
  refine this.trans ?_
  congr 1
  simp only [List.drop_zero, List.mem_cons, List.not_mem_nil, or_false, forall_eq_or_imp, forall_eq, V]
  exact decide_eq_decide.2 (by grind)
theorem rwithin_f {a n : Int} (h0 : 0 ≤ n) (h1 : n ≤ 2305843009213693952) : jacquardref24_within.f a n = some (decide (-n ≤ a ∧ a ≤ n)) := by
  unfold jacquardref24_within.f
  rw [w64 (by omega) (by omega)]
  by_cases h : a ≥ -n
  · rw [if_pos h]; simp; omega
  · rw [if_neg h]; simp; omega
theorem rvalid_f (a0 a1 a2 a3 a4 a5 a6 a7 a8 : Int) : jacquardref24_Valid.f a0 a1 a2 a3 a4 a5 a6 a7 a8 = some (decide (V a0 a1 a2 a3 a4 a5 a6 a7 a8)) := by
  unfold jacquardref24_Valid.f
  simp only [rwithin_f (n := 2147483648) (by decide) (by decide), rwithin_f (n := 2305843009213693952) (by decide) (by decide), Option.bind_some, decide_eq_true_eq]
  unfold V C31
  repeat' split
  all_goals first | (congr 1; exact decide_eq_decide.2 (by omega)) | (congr 1; exact (decide_eq_false (by omega)).symm)

theorem tmod_fix {n d : Int} (hd : 0 < d) : (if Int.tmod n d < 0 then Int.tmod n d + d else Int.tmod n d) = n % d := by
  have h0 := Int.emod_nonneg n (show d ≠ 0 by omega)
  have h1 := Int.emod_lt_of_pos n hd
  rw [Int.tmod_eq_emod]
  split <;> split <;> omega
theorem modulo_f {n d : Int} (hd : 0 < d) (hd2 : d ≤ 9223372036854775807) : diophant_modulo.f n d = some (n % d) := by
  unfold diophant_modulo.f
  have h0 := Int.emod_nonneg n (show d ≠ 0 by omega)
  have h1 := Int.emod_lt_of_pos n hd
  rw [if_neg (by omega), ← tmod_fix hd]
  have ht := tmod_fix (n := n) hd
  split
  · rename_i h
    rw [if_pos h] at ht
    rw [w64 (by omega) (by omega)]
  · rfl
theorem floor_f {n d : Int} (hd : 0 < d) (hd2 : d ≤ 4611686018427387904) (h0 : -4611686018427387904 ≤ n) (h1 : n ≤ 4611686018427387904) : diophant_floor.f n d = some (n / d) := by
  unfold diophant_floor.f
  have g0 := Int.emod_nonneg n (show d ≠ 0 by omega)
  have g1 := Int.emod_lt_of_pos n hd
  have hq : n - n % d = d * (n / d) := by have := Int.mul_ediv_add_emod n d; omega
  rw [modulo_f hd (by omega), Option.bind_some, if_neg (by omega), w64 (x := n - n % d) (by omega) (by omega), hq, Int.mul_tdiv_cancel_left _ (by omega)]
  have hlo : -4611686018427387904 ≤ n / d := by
    have := Int.ediv_nonneg (a := n + 4611686018427387904 * d) (b := d)
    have h2 : -4611686018427387904 * d ≤ n := Int.le_trans (by omega) h0
    exact Int.le_ediv_of_mul_le hd h2
  have hhi : n / d ≤ 4611686018427387904 := by
    refine Int.le_of_lt_add_one (Int.ediv_lt_of_lt_mul hd ?_)
    omega
  rw [w64 (by omega) (by omega)]
end Go.Proofs.Ytpfkhinbehegbaa.X

set_option linter.unusedVariables false
namespace Go.Proofs.Ytpfkhinbehegbaa.X
open Go.RowKit Go.Proofs.YtpfkhinbehegbaaW.PrintWords Go.Proofs.YtpfkhinbehegbaaW.PrintLast Go.Proofs.YtpfkhinbehegbaaW.PrintMore

structure Line (A B C X Y DX DY : Int) : Prop where
  on : A * X + B * Y = C
  dir : A * DX + B * DY = 0
  full : ∀ x y, A * x + B * y = C → ∃ t, x = X + t * DX ∧ y = Y + t * DY
  dx : 0 ≤ DX ∧ DX ≤ 2147483648
  dy : -2147483648 ≤ DY ∧ DY ≤ 2147483648
  up : DX = 0 → B = 0 ∧ Y = 0 ∧ DY = 1 ∧ X = Int.tdiv C A
  across : DX ≠ 0 → B ≠ 0 ∧ DX = ((B.natAbs / Int.gcd A B : Nat) : Int) ∧ 0 ≤ X ∧ X < DX
  xb : -2305843009213693952 ≤ X ∧ X ≤ 2305843009213693952
  yb : -2305843011361177600 ≤ Y ∧ Y ≤ 2305843011361177600

theorem line_on {A B C g A' B' c' s t m X : Int} (hb : s * A + t * B = g) (hA : A = g * A') (hB : B = g * B') (hC : C = g * c') (hm : m = B' ∨ m = -B') (hX : X = ((s % m) * (c' % m)) % m) :
    ∃ Y, A * X + B * Y = C := by
  rw [← Int.mul_emod] at hX
  have hq := Int.mul_ediv_add_emod (s * c') m
  rw [← hX] at hq
  generalize s * c' / m = q at hq
  -- m * q + X = s * c'
  rcases hm with hm | hm <;> rw [hm] at hq
  · refine ⟨t * c' + A' * q, ?_⟩
    have : X = s * c' - B' * q := by omega
    rw [this]
    grind
  · refine ⟨t * c' - A' * q, ?_⟩
    have : X = s * c' + B' * q := by grind
    rw [this]
    grind
theorem line_full {A B C g A' B' s t X Y x y : Int} (hg : g ≠ 0) (hb : s * A + t * B = g) (hA : A = g * A') (hB : B = g * B') (h0 : A * X + B * Y = C) (h1 : A * x + B * y = C) :
    x = X + (t * (x - X) - s * (y - Y)) * B' ∧ y = Y - (t * (x - X) - s * (y - Y)) * A' := by
  have e1 : s * A' + t * B' = 1 := by
    apply Int.eq_of_mul_eq_mul_left hg
    rw [hA, hB] at hb
    grind
  have e2 : A' * (x - X) = -(B' * (y - Y)) := by
    apply Int.eq_of_mul_eq_mul_left hg
    rw [hA, hB] at h0 h1
    grind
  constructor
  · grind
  · grind

theorem natAbs_tdiv_le (C A : Int) : (Int.tdiv C A).natAbs ≤ C.natAbs := by
  rw [Int.natAbs_tdiv]; exact Nat.div_le_self _ _
theorem dvd_tdiv {g C : Int} (hg : g ≠ 0) (h : Int.tmod C g = 0) : C = g * Int.tdiv C g := by
  have := Int.mul_tdiv_add_tmod C g
  omega
theorem bound_mul {a b : Int} {m n : Nat} (ha : a.natAbs ≤ m) (hb : b.natAbs ≤ n) : (a * b).natAbs ≤ m * n := by
  rw [Int.natAbs_mul]; exact Nat.mul_le_mul ha hb
/-- what B * Y = C - A X says of the size of Y -/
theorem yb_of {A B C X Y m : Int} (h : A * X + B * Y = C) (hA : C31 A) (hB : B ≠ 0) (hC : C.natAbs ≤ 2305843009213693952) (hX0 : 0 ≤ X) (hX : X < m) (hm : m ≤ B.natAbs) : Y.natAbs ≤ 2305843011361177600 := by
  have h1 : (B * Y).natAbs ≤ 2305843009213693952 + 2147483648 * X.natAbs := by
    have : B * Y = C - A * X := by omega
    have h2 := bound_mul (a := A) (b := X) (m := 2147483648) (by unfold C31 at hA; omega) (Nat.le_refl _)
    omega
  rw [Int.natAbs_mul] at h1
  have hb1 : 1 ≤ B.natAbs := by omega
  have h3 : X.natAbs ≤ B.natAbs := by omega
  have h4 : B.natAbs * Y.natAbs ≤ B.natAbs * 2305843011361177600 := by omega
  exact Nat.le_of_mul_le_mul_left h4 (by omega)

theorem natAbs_gcd_dvd {A B : Int} : ∃ A' B' : Int, A = (Int.gcd A B : Int) * A' ∧ B = (Int.gcd A B : Int) * B' := by
  obtain ⟨a, ha⟩ := Int.gcd_dvd_left A B
  obtain ⟨b, hb⟩ := Int.gcd_dvd_right A B
  exact ⟨a, b, ha, hb⟩
theorem gcd_le {A B : Int} (hA : C31 A) (hB : C31 B) : Int.gcd A B ≤ 2147483648 := by
  unfold C31 at hA hB
  rcases Nat.eq_zero_or_pos A.natAbs with h0 | h0
  · unfold Int.gcd; rw [h0, Nat.gcd_zero_left]; omega
  · exact Nat.le_trans (Nat.gcd_le_left _ h0) (by omega)
theorem gcd_pos {A B : Int} (h : ¬ (A = 0 ∧ B = 0)) : 0 < Int.gcd A B := by
  rcases Nat.eq_zero_or_pos (Int.gcd A B) with h0 | h0
  · exact absurd (Int.gcd_eq_zero_iff.1 h0) h
  · exact h0

theorem all_none {A B C xl xh yl yh sl sh : Int} {k : Nat} (hk : 2147483660 ≤ k) (h : ¬ V A B C xl xh yl yh sl sh ∨ (A = 0 ∧ B = 0)) : diophant_All.f k A B C xl xh yl yh sl sh = some (0, 0, 0, 0, false) := by
  obtain ⟨k, rfl⟩ : ∃ m, k = m + 1 := ⟨k - 1, by omega⟩
  unfold diophant_All.f
  rw [valid_f (by omega), Option.bind_some]
  by_cases hv : V A B C xl xh yl yh sl sh
  · have h2 : A = 0 ∧ B = 0 := h.resolve_left (fun g => g hv)
    rw [if_pos (by simpa using hv), if_pos h2.1, h2.2]
    simp [diophant_All.j0]
  · rw [if_neg (by simpa using hv)]
    simp [diophant_All.j0]

/-- the line where B is not 0; m is |B| / g -/
theorem line_mk {A B C A' B' c' s t X : Int} {g : Nat} (hgp : 0 < g) (hge : Int.gcd A B = g) (hA : C31 A) (hB : C31 B) (hB0 : B ≠ 0) (hC : C.natAbs ≤ 2305843009213693952) (hb : s * A + t * B = g)
    (eA : A = g * A') (eB : B = g * B') (eC : C = g * c') (hX : X = ((s % (B'.natAbs : Int)) * (c' % (B'.natAbs : Int))) % (B'.natAbs : Int)) :
    ∃ Y, A * X + B * Y = C ∧ Line A B C X Y (B'.natAbs : Int) (if B < 0 then A' else -A') := by
  have hBn : B.natAbs = g * B'.natAbs := by rw [eB, Int.natAbs_mul]; simp
  have hAn : A.natAbs = g * A'.natAbs := by rw [eA, Int.natAbs_mul]; simp
  have hB'0 : B'.natAbs ≠ 0 := by
    intro h
    rw [h, Nat.mul_zero] at hBn
    omega
  have hB'l : B'.natAbs ≤ B.natAbs := by rw [hBn]; exact Nat.le_mul_of_pos_left _ hgp
  have hA'l : A'.natAbs ≤ A.natAbs := by rw [hAn]; exact Nat.le_mul_of_pos_left _ hgp
  have hqm : B.natAbs / g = B'.natAbs := by rw [hBn]; exact Nat.mul_div_cancel_left _ hgp
  have hBl : B.natAbs ≤ 2147483648 := by unfold C31 at hB; omega
  have hAl : A.natAbs ≤ 2147483648 := by unfold C31 at hA; omega
  have hmB : ((B'.natAbs : Nat) : Int) = B' ∨ ((B'.natAbs : Nat) : Int) = -B' := by omega
  obtain ⟨Y, hY⟩ := line_on hb eA eB eC hmB hX
  have hX0 : 0 ≤ X := by rw [hX]; exact Int.emod_nonneg _ (by omega)
  have hX1 : X < ((B'.natAbs : Nat) : Int) := by rw [hX]; exact Int.emod_lt_of_pos _ (by omega)
  have hYb := yb_of hY hA hB0 hC hX0 hX1 (by omega)
  have hfull : ∀ x y, A * x + B * y = C → x = X + (t * (x - X) - s * (y - Y)) * B' ∧ y = Y - (t * (x - X) - s * (y - Y)) * A' := fun x y h => line_full (by omega) hb eA eB hY h
  have hsg : (B < 0 ∧ ((B'.natAbs : Nat) : Int) = -B') ∨ (¬ B < 0 ∧ ((B'.natAbs : Nat) : Int) = B') := by
    rcases Int.lt_or_le B' 0 with h | h
    · exact .inl ⟨by rw [eB]; exact Int.mul_neg_of_pos_of_neg (by omega) h, by omega⟩
    · exact .inr ⟨by rw [eB]; have := Int.mul_nonneg (show (0 : Int) ≤ g by omega) h; omega, by omega⟩
  have hup : ((B'.natAbs : Nat) : Int) ≠ 0 := by omega
  have hac : ((B'.natAbs : Nat) : Int) = ((B.natAbs / Int.gcd A B : Nat) : Int) := by rw [hge, hqm]
  have hdx : 0 ≤ ((B'.natAbs : Nat) : Int) ∧ ((B'.natAbs : Nat) : Int) ≤ 2147483648 := by omega
  have hA2 : -2147483648 ≤ A' ∧ A' ≤ 2147483648 := by omega
  have hxb : -2305843009213693952 ≤ X ∧ X ≤ 2305843009213693952 := by omega
  have hyb : -2305843011361177600 ≤ Y ∧ Y ≤ 2305843011361177600 := by omega
  clear hYb hBn hAn hB'0 hB'l hA'l hqm hBl hAl hmB hX hC hA hB hgp hge
  refine ⟨Y, hY, ?_⟩
  rcases hsg with ⟨hneg, hB'n⟩ | ⟨hneg, hB'n⟩
  · rw [if_pos hneg]
    exact {
      on := hY
      dir := by rw [hB'n, eA, eB]; grind
      full := fun x y h => ⟨-(t * (x - X) - s * (y - Y)), by
        obtain ⟨h1, h2⟩ := hfull x y h
        rw [hB'n]
        generalize t * (x - X) - s * (y - Y) = u at *
        exact ⟨by rw [h1]; grind, by rw [h2]; grind⟩⟩
      dx := hdx
      dy := hA2
      up := fun h => absurd h hup
      across := fun _ => ⟨hB0, hac, hX0, hX1⟩
      xb := hxb
      yb := hyb }
  · rw [if_neg hneg]
    exact {
      on := hY
      dir := by rw [hB'n, eA, eB]; grind
      full := fun x y h => ⟨(t * (x - X) - s * (y - Y)), by
        obtain ⟨h1, h2⟩ := hfull x y h
        rw [hB'n]
        generalize t * (x - X) - s * (y - Y) = u at *
        exact ⟨h1, by rw [h2]; grind⟩⟩
      dx := hdx
      dy := by omega
      up := fun h => absurd h hup
      across := fun _ => ⟨hB0, hac, hX0, hX1⟩
      xb := hxb
      yb := hyb }
theorem line_up {A B C : Int} {g : Nat} (hA0 : A ≠ 0) (hB0 : B = 0) (hC : C.natAbs ≤ 2305843009213693952) (hgA : (g : Int) = A ∨ (g : Int) = -A) (hm : Int.tmod C g = 0) : Line A B C (Int.tdiv C A) 0 0 1 := by
  have hca := natAbs_tdiv_le C A
  have hAC : C = A * Int.tdiv C A := by
    refine dvd_tdiv hA0 ?_
    rcases hgA with h | h
    · rw [← h]; exact hm
    · rw [show A = -(g : Int) by omega, Int.tmod_neg]; exact hm
  subst hB0
  exact {
    on := by rw [← hAC]; omega
    dir := by omega
    full := fun x y h => ⟨y, by
      rw [Int.zero_mul, Int.add_zero] at h
      have := Int.eq_of_mul_eq_mul_left hA0 (h.trans hAC)
      omega, by omega⟩
    dx := by omega
    dy := by omega
    up := fun _ => ⟨rfl, rfl, rfl, rfl⟩
    across := fun h => absurd rfl h
    xb := by omega
    yb := by omega }

theorem w64_prod {p q : Int} (h0 : 0 ≤ p) (h1 : p ≤ 2147483648) (h2 : 0 ≤ q) (h3 : q ≤ 2147483648) : wrap64 (p * q) = p * q := by
  have := bound_mul (a := p) (b := q) (m := 2147483648) (n := 2147483648) (by omega) (by omega)
  exact w64 (by omega) (by omega)
theorem w64_mods {s c m : Int} (hm : 0 < m) (hm2 : m ≤ 2147483648) : wrap64 (s % m * (c % m)) = s % m * (c % m) := by
  have e1 := Int.emod_nonneg s (show m ≠ 0 by omega)
  have e2 := Int.emod_lt_of_pos s hm
  have e3 := Int.emod_nonneg c (show m ≠ 0 by omega)
  have e4 := Int.emod_lt_of_pos c hm
  exact w64_prod e1 (Int.le_trans (Int.le_of_lt e2) hm2) e3 (Int.le_trans (Int.le_of_lt e4) hm2)

theorem w64_c31 {n : Int} (h : C31 n) : wrap64 n = n := w64 (by unfold C31 at h; omega) (by unfold C31 at h; omega)
theorem w64_ax {A X m : Int} (hA : C31 A) (h0 : 0 ≤ X) (h1 : X < m) (hm : m ≤ 2147483648) : wrap64 (A * X) = A * X := by
  have := bound_mul (a := A) (b := X) (m := 2147483648) (n := 2147483648) (by unfold C31 at hA; omega) (by omega)
  exact w64 (by omega) (by omega)
theorem w64_by {A B C X Y m : Int} (hA : C31 A) (h0 : 0 ≤ X) (h1 : X < m) (hm : m ≤ 2147483648) (hC : C.natAbs ≤ 2305843009213693952) (hY : A * X + B * Y = C) : wrap64 (B * Y) = B * Y := by
  have := bound_mul (a := A) (b := X) (m := 2147483648) (n := 2147483648) (by unfold C31 at hA; omega) (by omega)
  exact w64 (by omega) (by omega)
theorem all_tail {A B C A' B' s c : Int} (hA : C31 A) (hB0 : B ≠ 0) (hC : C.natAbs ≤ 2305843009213693952) {Y : Int}
    (hY : A * (s % (B'.natAbs : Int) * (c % (B'.natAbs : Int)) % (B'.natAbs : Int)) + B * Y = C)
    (hL : Line A B C (s % (B'.natAbs : Int) * (c % (B'.natAbs : Int)) % (B'.natAbs : Int)) Y (B'.natAbs : Int) (if B < 0 then A' else -A')) :
    ∃ X Y DX DY, (if B < 0 then ((diophant_modulo.f s (wrap64 (B'.natAbs : Int))).bind fun t118 => ((diophant_modulo.f c (wrap64 (B'.natAbs : Int))).bind fun t119 => ((diophant_modulo.f (wrap64 (t118 * t119)) (wrap64 (B'.natAbs : Int))).bind fun t120 => (some (t120, wrap64 (Int.tdiv (wrap64 (C - (wrap64 (A * t120)))) B), wrap64 (B'.natAbs : Int), wrap64 A', true))))) else ((diophant_modulo.f s (wrap64 (B'.natAbs : Int))).bind fun t121 => ((diophant_modulo.f c (wrap64 (B'.natAbs : Int))).bind fun t122 => ((diophant_modulo.f (wrap64 (t121 * t122)) (wrap64 (B'.natAbs : Int))).bind fun t123 => (some (t123, wrap64 (Int.tdiv (wrap64 (C - (wrap64 (A * t123)))) B), wrap64 (B'.natAbs : Int), wrap64 (-A'), true)))))) = some (X, Y, DX, DY, true) ∧ Line A B C X Y DX DY := by
  have hdx := hL.dx
  have hdy := hL.dy
  have hyb := hL.yb
  have hac := hL.across (fun h => hB0 (hL.up h).1)
  have hm0 : (0 : Int) < (B'.natAbs : Int) := Int.lt_of_le_of_lt hac.2.2.1 hac.2.2.2
  have W2 : wrap64 (B'.natAbs : Int) = (B'.natAbs : Int) := w64 (by omega) (by omega)
  have W3 := w64_mods (s := s) (c := c) hm0 hdx.2
  have hm1 : (B'.natAbs : Int) ≤ 9223372036854775807 := Int.le_trans hdx.2 (by decide)
  have W4 := w64_ax hA hac.2.2.1 hac.2.2.2 hdx.2
  have W5 := w64_by hA hac.2.2.1 hac.2.2.2 hdx.2 hC hY
  have W6 : wrap64 Y = Y := w64 (Int.le_trans (by decide) hyb.1) (Int.le_trans hyb.2 (by decide))
  have e5 := Int.sub_eq_iff_eq_add'.2 hY.symm
  rw [W2, modulo_f hm0 hm1, modulo_f hm0 hm1]
  simp only [Option.bind_some]
  rw [W3, modulo_f hm0 hm1]
  simp only [Option.bind_some]
  rw [W4, e5, W5, Int.mul_tdiv_cancel_left _ hB0, W6]
  by_cases hneg : B < 0
  · rw [if_pos hneg] at hL hdy
    rw [if_pos hneg, w64_c31 hdy]
    exact ⟨_, Y, _, _, rfl, hL⟩
  · rw [if_neg hneg] at hL hdy
    rw [if_neg hneg, w64_c31 hdy]
    exact ⟨_, Y, _, _, rfl, hL⟩

theorem all_j0 {A B C xl xh yl yh sl sh : Int} {k : Nat} (hk : 2147483655 ≤ k) (hA : C31 A) (hB : C31 B) (hC : C.natAbs ≤ 2305843009213693952) (h0 : ¬ (A = 0 ∧ B = 0)) :
    (Int.tmod C (Int.gcd A B) ≠ 0 ∧ diophant_All.j0 k false A B C xl xh yl yh sl sh = some (0, 0, 0, 0, false)) ∨
    (Int.tmod C (Int.gcd A B) = 0 ∧ ∃ X Y DX DY, diophant_All.j0 k false A B C xl xh yl yh sl sh = some (X, Y, DX, DY, true) ∧ Line A B C X Y DX DY) := by
  obtain ⟨k, rfl⟩ : ∃ m, k = m + 1 := ⟨k - 1, by omega⟩
  have hlA : lim A = A := lim_id hA.1 hA.2
  have hlB : lim B = B := lim_id hB.1 hB.2
  obtain ⟨s, t, hg, hb, hs, ht⟩ := gcd_f k A B (by omega)
  rw [hlA, hlB] at hg hb
  have hgp := gcd_pos h0
  have hgl := gcd_le hA hB
  obtain ⟨A', B', eA, eB⟩ := natAbs_gcd_dvd (A := A) (B := B)
  generalize hge : Int.gcd A B = g at *
  have hgz : ((g : Nat) : Int) ≠ 0 := by omega
  simp only [diophant_All.j0]
  rw [if_neg (by simp), hg, Option.bind_some]
  dsimp only
  rw [if_neg hgz]
  by_cases hm : Int.tmod C g = 0
  · right
    refine ⟨hm, ?_⟩
    rw [if_pos hm]
    have eC := dvd_tdiv hgz hm
    have hc' := natAbs_tdiv_le C (g : Int)
    have W1 : wrap64 (Int.tdiv C g) = Int.tdiv C g := w64 (by omega) (by omega)
    by_cases hB0 : B = 0
    · rw [if_pos hB0]
      have hA0 : A ≠ 0 := fun h => h0 ⟨h, hB0⟩
      have hca := natAbs_tdiv_le C A
      have hgA : (g : Int) = A ∨ (g : Int) = -A := by
        rw [← hge, hB0, Int.gcd_zero_right]; omega
      rw [if_neg hA0, w64 (by omega) (by omega)]
      exact ⟨Int.tdiv C A, 0, 0, 1, rfl, line_up hA0 hB0 hC hgA hm⟩
    · have hBa : diophant_abs.f B = some ((B.natAbs : Nat) : Int) := abs_f (by unfold C31 at hB; omega) (by unfold C31 at hB; omega)
      have hBn : B.natAbs = g * B'.natAbs := by rw [eB, Int.natAbs_mul]; simp
      have hqm : B.natAbs / g = B'.natAbs := by rw [hBn]; exact Nat.mul_div_cancel_left _ hgp
      have hq : Int.tdiv (B.natAbs : Int) (g : Int) = ((B'.natAbs : Nat) : Int) := by rw [← hqm]; rfl
      have hAA : Int.tdiv A g = A' := by rw [eA]; exact Int.mul_tdiv_cancel_left _ hgz
      have hNA : Int.tdiv (-A) g = -A' := by rw [eA, show -((g : Int) * A') = g * -A' by grind]; exact Int.mul_tdiv_cancel_left _ hgz
      obtain ⟨Y, hY, hL⟩ := line_mk hgp hge hA hB hB0 hC hb eA eB eC rfl
      rw [if_neg hB0, hBa, Option.bind_some, hq, W1, hAA, w64_c31 (n := -A) (by unfold C31 at hA ⊢; omega), hNA]
      exact all_tail hA hB0 hC hY hL
  · left
    exact ⟨hm, by rw [if_neg hm]⟩

theorem all_f {A B C xl xh yl yh sl sh : Int} {k : Nat} (hk : 2147483660 ≤ k) (hv : V A B C xl xh yl yh sl sh) (h0 : ¬ (A = 0 ∧ B = 0)) :
    (Int.tmod C (Int.gcd A B) ≠ 0 ∧ diophant_All.f k A B C xl xh yl yh sl sh = some (0, 0, 0, 0, false)) ∨
    (Int.tmod C (Int.gcd A B) = 0 ∧ ∃ X Y DX DY, diophant_All.f k A B C xl xh yl yh sl sh = some (X, Y, DX, DY, true) ∧ Line A B C X Y DX DY) := by
  have : diophant_All.f k A B C xl xh yl yh sl sh = diophant_All.j0 k false A B C xl xh yl yh sl sh := by
    unfold diophant_All.f
    rw [valid_f (by omega), Option.bind_some, if_pos (by simpa using hv)]
    by_cases hA : A = 0
    · rw [if_pos hA, show (B == 0) = false from beq_eq_false_iff_ne.2 (fun h => h0 ⟨hA, h⟩)]
    · rw [if_neg hA]
  rw [this]
  exact all_j0 (by omega) hv.1 hv.2.1 (by unfold V at hv; omega) h0
end Go.Proofs.Ytpfkhinbehegbaa.X
