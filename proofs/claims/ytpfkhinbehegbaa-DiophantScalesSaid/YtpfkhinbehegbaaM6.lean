/- Plain mathematics for layer 24: the wide product, a coordinate at a parameter, and what Check accepts. -/
import Derived.Test.YtpfkhinbehegbaaMb
import Derived.Laws.BitsLemmas
import Derived.IntWalk
import Derived.Test.YtpfkhinbehegbaaXx28
import Derived.Test.YtpfkhinbehegbaaXx29
import Derived.Test.YtpfkhinbehegbaaXx30
import Derived.Test.YtpfkhinbehegbaaXx31
set_option linter.unusedVariables false
namespace Go.Proofs.Ytpfkhinbehegbaa.X
open Go.RowKit Go.Proofs.YtpfkhinbehegbaaW.PrintWords Go.Proofs.YtpfkhinbehegbaaW.PrintLast Go.Proofs.YtpfkhinbehegbaaW.PrintMore

theorem u64_id {n : Int} (h0 : 0 ≤ n) (h1 : n ≤ 18446744073709551615) : IntKind.u64.wrap n = n := IntWalk.u64_in n ⟨h0, h1⟩
theorem u64_mod (n : Int) : IntKind.u64.wrap n = n % 18446744073709551616 := by simp [IntKind.wrap, IntKind.bits, IntKind.signed]
theorem mask32 {x : Int} (h0 : 0 ≤ x) (h1 : x ≤ 18446744073709551615) : Go.bits .and .u64 x 4294967295 = x % 4294967296 :=
  bits_mask .u64 64 (by decide) (fun n a b => u64_id a (by omega)) 32 (by decide) x h0 (by omega)
theorem mul_le_of_bounds {a b M N : Int} (ha : 0 ≤ a) (ha2 : a ≤ M) (hb : 0 ≤ b) (hb2 : b ≤ N) : 0 ≤ a * b ∧ a * b ≤ M * N :=
  ⟨Int.mul_nonneg ha hb, Int.mul_le_mul ha2 hb2 hb (Int.le_trans ha ha2)⟩
/-- the high word is 0 and the low word at most 2^62 exactly if the product is -/
theorem mul64_f {a b : Int} (ha : 0 ≤ a) (ha2 : a ≤ 18446744073709551615) (hb : 0 ≤ b) (hb2 : b ≤ 18446744073709551615) :
    ∃ hi lo, bits_Mul64.f a b = some (hi, lo) ∧ (hi = 0 ∧ lo ≤ 4611686018427387904 ↔ a * b ≤ 4611686018427387904) := by
  unfold bits_Mul64.f
  rw [mask32 ha ha2, mask32 hb hb2]
  have a0 : 0 ≤ a % 4294967296 ∧ a % 4294967296 ≤ 4294967295 := by omega
  have a1 : 0 ≤ a / 4294967296 ∧ a / 4294967296 ≤ 4294967295 := by omega
  have b0 : 0 ≤ b % 4294967296 ∧ b % 4294967296 ≤ 4294967295 := by omega
  have b1 : 0 ≤ b / 4294967296 ∧ b / 4294967296 ≤ 4294967295 := by omega
  have ea : a = a / 4294967296 * 4294967296 + a % 4294967296 := by omega
  have eb : b = b / 4294967296 * 4294967296 + b % 4294967296 := by omega
  generalize a % 4294967296 = x0 at *
  generalize a / 4294967296 = x1 at *
  generalize b % 4294967296 = y0 at *
  generalize b / 4294967296 = y1 at *
  have p00 := mul_le_of_bounds a0.1 a0.2 b0.1 b0.2
  have p10 := mul_le_of_bounds a1.1 a1.2 b0.1 b0.2
  have p01 := mul_le_of_bounds a0.1 a0.2 b1.1 b1.2
  have p11 := mul_le_of_bounds a1.1 a1.2 b1.1 b1.2
  have e : a * b = x1 * y1 * 18446744073709551616 + (x1 * y0 + x0 * y1) * 4294967296 + x0 * y0 := by rw [ea, eb]; grind
  rw [e]
  clear e ea eb
  generalize x0 * y0 = q00 at *
  generalize x1 * y0 = q10 at *
  generalize x0 * y1 = q01 at *
  generalize x1 * y1 = q11 at *
  rw [u64_id (n := q00) (by omega) (by omega), u64_id (n := q10) (by omega) (by omega), u64_id (n := q01) (by omega) (by omega), u64_id (n := q11) (by omega) (by omega)]
  have w1 : IntKind.u64.wrap (q10 + q00 / 4294967296) = q10 + q00 / 4294967296 := u64_id (by omega) (by omega)
  rw [w1, mask32 (x := q10 + q00 / 4294967296) (by omega) (by omega)]
  have w2 : IntKind.u64.wrap ((q10 + q00 / 4294967296) % 4294967296 + q01) = (q10 + q00 / 4294967296) % 4294967296 + q01 := u64_id (by omega) (by omega)
  have w3 : IntKind.u64.wrap (q11 + (q10 + q00 / 4294967296) / 4294967296) = q11 + (q10 + q00 / 4294967296) / 4294967296 := u64_id (by omega) (by omega)
  rw [w2, w3]
  have w4 : IntKind.u64.wrap (q11 + (q10 + q00 / 4294967296) / 4294967296 + ((q10 + q00 / 4294967296) % 4294967296 + q01) / 4294967296) = q11 + (q10 + q00 / 4294967296) / 4294967296 + ((q10 + q00 / 4294967296) % 4294967296 + q01) / 4294967296 := u64_id (by omega) (by omega)
  rw [w4, u64_mod]
  refine ⟨_, _, rfl, ?_⟩
  omega

/-- a coordinate at a parameter, or a number beyond all ranges on its side -/
def Clip (f d t : Int) : Int := if (t * d).natAbs ≤ 4611686018427387904 then f + t * d else if decide (t > 0) = decide (d > 0) then 4611686018427387904 else -4611686018427387904
theorem clip_sign {t d : Int} (h : 4611686018427387904 < (t * d).natAbs) : (decide (t > 0) = decide (d > 0) ∧ 4611686018427387904 < t * d) ∨ (¬ decide (t > 0) = decide (d > 0) ∧ t * d < -4611686018427387904) := by
  rcases Int.lt_trichotomy t 0 with ht | ht | ht <;> rcases Int.lt_trichotomy d 0 with hd | hd | hd
  · left; have := Int.mul_pos_of_neg_of_neg ht hd; simp; omega
  · subst hd; omega
  · right; have := Int.mul_neg_of_neg_of_pos ht hd; simp; omega
  · subst ht; omega
  · subst ht; omega
  · subst ht; omega
  · right; have := Int.mul_neg_of_pos_of_neg ht hd; simp; omega
  · subst hd; omega
  · left; have := Int.mul_pos ht hd; simp; omega
theorem clip_lt {f d t l : Int} (hf : -2305843015656144896 ≤ f ∧ f ≤ 2305843015656144896) (hl : C31 l) : (Clip f d t < l ↔ f + t * d < l) ∧ (l < Clip f d t ↔ l < f + t * d) := by
  unfold C31 at hl
  unfold Clip
  by_cases h : (t * d).natAbs ≤ 4611686018427387904
  · rw [if_pos h]; exact ⟨Iff.rfl, Iff.rfl⟩
  · rw [if_neg h]
    rcases clip_sign (by omega : 4611686018427387904 < (t * d).natAbs) with ⟨h1, h2⟩ | ⟨h1, h2⟩
    · rw [if_pos h1]; omega
    · rw [if_neg h1]; omega

theorem at_f {f d lo hi t : Int} {k : Nat} (hf : -2305843015656144896 ≤ f ∧ f ≤ 2305843015656144896) (hd : -4294967296 ≤ d ∧ d ≤ 4294967296) (ht : -4611686018427387905 ≤ t ∧ t ≤ 4611686018427387905) :
    diophant_coordinate_at.f (k + 1) f d lo hi t = some (Clip f d t) := by
  unfold diophant_coordinate_at.f
  rw [abs_f (by omega) (by omega), Option.bind_some, abs_f (by omega) (by omega), Option.bind_some, u64_id (by omega) (by omega), u64_id (by omega) (by omega)]
  obtain ⟨hi', lo', hm, hiff⟩ := mul64_f (a := (t.natAbs : Int)) (b := (d.natAbs : Int)) (by omega) (by omega) (by omega) (by omega)
  rw [hm, Option.bind_some]
  dsimp only
  have he : ((t.natAbs : Int) * (d.natAbs : Int) ≤ 4611686018427387904) ↔ (t * d).natAbs ≤ 4611686018427387904 := by rw [Int.natAbs_mul, ← Int.natCast_mul]; omega
  rw [he] at hiff
  have hj : (if hi' = 0 then diophant_coordinate_at.j0 (k + 1) t (decide (lo' ≤ 4611686018427387904)) f d lo hi else diophant_coordinate_at.j0 (k + 1) t false f d lo hi) = diophant_coordinate_at.j0 (k + 1) t (decide ((t * d).natAbs ≤ 4611686018427387904)) f d lo hi := by
    by_cases h : hi' = 0
    · rw [if_pos h]; congr 1; exact decide_eq_decide.2 (by rw [← hiff]; simp [h])
    · rw [if_neg h]; congr 1; symm; exact decide_eq_false (by rw [← hiff]; simp [h])
  rw [hj]
  simp only [diophant_coordinate_at.j0]
  unfold Clip
  by_cases h : (t * d).natAbs ≤ 4611686018427387904
  · rw [if_pos (by simpa using h), if_pos h, w64 (x := t * d) (by omega) (by omega), w64 (by omega) (by omega)]
  · rw [if_neg (by simpa using h), if_neg h]
    by_cases h1 : decide (t > 0) = decide (d > 0)
    · rw [if_pos h1, if_pos (by rw [h1]; simp)]
    · rw [if_neg h1, if_neg (by simpa using h1)]

instance (f d l h t : Int) : Decidable (LeftOut f d l h t) := by unfold LeftOut; infer_instance
instance (f d l h t : Int) : Decidable (RightOut f d l h t) := by unfold RightOut; infer_instance
theorem outside_f {f d lo hi t : Int} {k : Nat} (hf : -2305843015656144896 ≤ f ∧ f ≤ 2305843015656144896) (hd : -4294967296 ≤ d ∧ d ≤ 4294967296) (ht : -4611686018427387905 ≤ t ∧ t ≤ 4611686018427387905) (hl : C31 lo) (hh : C31 hi) :
    diophant_coordinate_outside.f (k + 1) f d lo hi t false = some (decide (LeftOut f d lo hi t)) ∧ diophant_coordinate_outside.f (k + 1) f d lo hi t true = some (decide (RightOut f d lo hi t)) := by
  have c1 := (clip_lt (d := d) (t := t) hf hl).1
  have c2 := (clip_lt (d := d) (t := t) hf hh).2
  have dl : decide (LeftOut f d lo hi t) = decide ((0 ≤ d ∧ Clip f d t < lo) ∨ (d ≤ 0 ∧ hi < Clip f d t)) := decide_eq_decide.2 (by unfold LeftOut; rw [c1, c2])
  have dr : decide (RightOut f d lo hi t) = decide ((d ≤ 0 ∧ Clip f d t < lo) ∨ (0 ≤ d ∧ hi < Clip f d t)) := decide_eq_decide.2 (by unfold RightOut; rw [c1, c2])
  rw [dl, dr]
  clear dl dr c1 c2
  unfold diophant_coordinate_outside.f
  rw [at_f hf hd ht, Option.bind_some, Option.bind_some, w64 (x := -d) (by omega) (by omega)]
  generalize Clip f d t = n
  rw [if_neg (by simp), if_pos rfl]
  constructor
  · by_cases h1 : d ≥ 0
    · rw [if_pos h1]
      by_cases h2 : n < lo
      · rw [if_pos h2]; congr 1; symm; exact decide_eq_true (by omega)
      · rw [if_neg h2]
        by_cases h3 : d ≤ 0
        · rw [if_pos h3]; congr 1; exact decide_eq_decide.2 (by omega)
        · rw [if_neg h3]; congr 1; symm; exact decide_eq_false (by omega)
    · rw [if_neg h1, if_pos (by omega)]; congr 1; exact decide_eq_decide.2 (by omega)
  · by_cases h1 : -d ≥ 0
    · rw [if_pos h1]
      by_cases h2 : n < lo
      · rw [if_pos h2]; congr 1; symm; exact decide_eq_true (by omega)
      · rw [if_neg h2]
        by_cases h3 : -d ≤ 0
        · rw [if_pos h3]; congr 1; exact decide_eq_decide.2 (by omega)
        · rw [if_neg h3]; congr 1; symm; exact decide_eq_false (by omega)
    · rw [if_neg h1, if_pos (by omega)]; congr 1; exact decide_eq_decide.2 (by omega)

theorem chk1_f {f d lo hi t : Int} {k : Nat} (l r : Bool) (hf : -2305843015656144896 ≤ f ∧ f ≤ 2305843015656144896) (hd : -4294967296 ≤ d ∧ d ≤ 4294967296) (ht : -4611686018427387904 ≤ t ∧ t ≤ 4611686018427387904) (hl : C31 lo) (hh : C31 hi) :
    chk1 (k + 1) l r f d lo hi t = some (l || decide (LeftOut f d lo hi t), r || decide (RightOut f d lo hi (t + 1))) := by
  unfold chk1
  rw [w64 (x := t + 1) (by omega) (by omega), (outside_f hf hd (by omega) hl hh).1, (outside_f hf hd (by omega) hl hh).2]
  cases l <;> cases r <;> simp
instance (xl xh yl yh sl sh X Y DX DY t : Int) : Decidable (LeftAll xl xh yl yh sl sh X Y DX DY t) := by unfold LeftAll; infer_instance
instance (xl xh yl yh sl sh X Y DX DY t : Int) : Decidable (RightAll xl xh yl yh sl sh X Y DX DY t) := by unfold RightAll; infer_instance
theorem chk3_f {A B C xl xh yl yh sl sh X Y DX DY t : Int} {k : Nat} (hv : V A B C xl xh yl yh sl sh) (L : Line A B C X Y DX DY) (ht : -4611686018427387904 ≤ t ∧ t ≤ 4611686018427387904) :
    chk3 (k + 1) xl xh yl yh sl sh X Y DX DY t = some (decide (LeftAll xl xh yl yh sl sh X Y DX DY t ∧ RightAll xl xh yl yh sl sh X Y DX DY (t + 1))) := by
  obtain ⟨hA, hB, h1, h2, h3, h4, h5, h6, h7, h8⟩ := hv
  have hs := line_sum L
  have hx := L.xb
  have hy := L.yb
  have hdx := L.dx
  have hdy := L.dy
  unfold chk3
  rw [w64 (x := X + Y) (by omega) (by omega), w64 (x := DX + DY) (by omega) (by omega)]
  rw [chk1_f _ _ (by omega) (by omega) ht h1 h2, Option.bind_some, chk1_f _ _ (by omega) (by omega) ht h3 h4, Option.bind_some, chk1_f _ _ (by omega) (by omega) ht h5 h6, Option.bind_some]
  unfold LeftAll RightAll
  simp only [Bool.false_or, Bool.decide_and, Bool.decide_or, Bool.or_assoc]

/-- what Check accepts -/
def Good (A B C xl xh yl yh sl sh kind T : Int) : Prop :=
  (kind = 1 ∧ Void xl xh yl yh sl sh) ∨ (kind = 2 ∧ A = 0 ∧ B = 0 ∧ C ≠ 0) ∨ (kind = 3 ∧ ¬ (A = 0 ∧ B = 0) ∧ Int.tmod C (Int.gcd A B) ≠ 0) ∨
  (kind = 4 ∧ -4611686018427387904 ≤ T ∧ T ≤ 4611686018427387904 ∧ ∃ X Y DX DY, ¬ (A = 0 ∧ B = 0) ∧ Int.tmod C (Int.gcd A B) = 0 ∧ diophant_All.f 2147483660 A B C xl xh yl yh sl sh = some (X, Y, DX, DY, true) ∧ LeftAll xl xh yl yh sl sh X Y DX DY T ∧ RightAll xl xh yl yh sl sh X Y DX DY (T + 1))
theorem all_more {A B C xl xh yl yh sl sh : Int} {k : Nat} (hk : 2147483660 ≤ k) {r : Int × Int × Int × Int × Bool} (h : diophant_All.f 2147483660 A B C xl xh yl yh sl sh = some r) : diophant_All.f k A B C xl xh yl yh sl sh = some r :=
  at_rounds (diophant_All.mono A B C xl xh yl yh sl sh) hk h
theorem check_f {A B C xl xh yl yh sl sh kind T : Int} {k : Nat} (hk : 2147483670 ≤ k) (hv : V A B C xl xh yl yh sl sh) :
    ∃ b, diophant_Check.f k A B C xl xh yl yh sl sh kind T = some b ∧ (b = true ↔ Good A B C xl xh yl yh sl sh kind T) := by
  obtain ⟨k, rfl⟩ : ∃ m, k = m + 1 := ⟨k - 1, by omega⟩
  unfold diophant_Check.f
  rw [valid_f (by omega), Option.bind_some, if_pos (by simpa using hv)]
  have hz : (A == 0 && B == 0) = decide (A = 0 ∧ B = 0) := by by_cases a : A = 0 <;> by_cases b : B = 0 <;> simp [a, b]
  have hall : ∃ l : Int × Int × Int × Int × Bool, diophant_All.f 2147483660 A B C xl xh yl yh sl sh = some l ∧ (l.2.2.2.2 = true ↔ ¬ (A = 0 ∧ B = 0) ∧ Int.tmod C (Int.gcd A B) = 0) ∧ (l.2.2.2.2 = true → Line A B C l.1 l.2.1 l.2.2.1 l.2.2.2.1) := by
    by_cases h0 : A = 0 ∧ B = 0
    · exact ⟨_, all_none (by omega) (.inr h0), by simp [h0], by simp⟩
    · rcases all_f (k := 2147483660) (by omega) hv h0 with ⟨hm, ha⟩ | ⟨hm, X, Y, DX, DY, ha, L⟩
      · exact ⟨_, ha, by simp [hm], by simp⟩
      · exact ⟨_, ha, by simp only [true_iff]; exact ⟨h0, hm⟩, fun _ => L⟩
  obtain ⟨⟨X, Y, DX, DY, ok⟩, ha, hok, hL⟩ := hall
  rw [all_more (by omega) ha, Option.bind_some]
  dsimp only at *
  rw [hz]
  unfold Good
  by_cases k1 : kind = 1
  · subst k1
    rw [if_pos rfl, void_f hv]
    exact ⟨_, rfl, by simp⟩
  rw [if_neg k1]
  by_cases k2 : kind = 2
  · subst k2
    rw [if_pos rfl]
    exact ⟨_, rfl, by simp [and_assoc]⟩
  rw [if_neg k2]
  by_cases k3 : kind = 3
  · subst k3
    rw [if_pos rfl]
    refine ⟨_, rfl, ?_⟩
    cases ok with
    | true => have := hok.1 rfl; simp [this]
    | false =>
      by_cases h0 : A = 0 ∧ B = 0
      · simp [h0]
      · have : ¬ Int.tmod C (Int.gcd A B) = 0 := fun h => by have := hok.2 ⟨h0, h⟩; simp at this
        simp [h0, this]
  rw [if_neg k3]
  by_cases k4 : kind = 4
  · subst k4
    rw [if_pos rfl]
    by_cases hc : ok = true ∧ -4611686018427387904 ≤ T ∧ T ≤ 4611686018427387904
    · rw [if_pos hc, chk3_f hv (hL hc.1) hc.2]
      refine ⟨_, rfl, ?_⟩
      obtain ⟨h1, h2, h3⟩ := hc
      subst h1
      have h4 := hok.1 rfl
      rw [decide_eq_true_eq]
      constructor
      · rintro ⟨g1, g2⟩
        exact .inr (.inr (.inr ⟨rfl, h2, h3, X, Y, DX, DY, h4.1, h4.2, ha, g1, g2⟩))
      · rintro (⟨g, _⟩ | ⟨g, _⟩ | ⟨g, _⟩ | ⟨_, _, _, X', Y', DX', DY', _, _, g, g1, g2⟩)
        · omega
        · omega
        · omega
        · rw [ha] at g
          injection g with g
          injection g with e1 g
          injection g with e2 g
          injection g with e3 g
          injection g with e4 g
          subst e1 e2 e3 e4
          exact ⟨g1, g2⟩
    · rw [if_neg hc]
      refine ⟨_, rfl, ?_⟩
      simp only [Bool.false_eq_true, false_iff]
      rintro (⟨g, _⟩ | ⟨g, _⟩ | ⟨g, _⟩ | ⟨_, g1, g2, X', Y', DX', DY', g3, g4, g, _⟩)
      · omega
      · omega
      · omega
      · exact hc ⟨hok.2 ⟨g3, g4⟩, g1, g2⟩
  · rw [if_neg k4]
    refine ⟨_, rfl, ?_⟩
    simp only [Bool.false_eq_true, false_iff]
    omega

/-- a certificate that is accepted proves that there is no solution -/
theorem good_none {A B C xl xh yl yh sl sh kind T : Int} (hv : V A B C xl xh yl yh sl sh) (h : Good A B C xl xh yl yh sl sh kind T) (x y : Int) : ¬ Sol A B C xl xh yl yh sl sh x y := by
  intro hs
  rcases h with ⟨_, h⟩ | ⟨_, rfl, rfl, h⟩ | ⟨_, _, h⟩ | ⟨_, _, _, X, Y, DX, DY, h0, hm, ha, hL, hR⟩
  · exact void_none h x y hs
  · have := hs.2.2.2.2.2.2; omega
  · exact h (tmod_dvd hs.2.2.2.2.2.2)
  · have L : Line A B C X Y DX DY := by
      rcases all_f (k := 2147483660) (by omega) hv h0 with ⟨hm', _⟩ | ⟨_, X', Y', DX', DY', ha', L⟩
      · exact absurd hm hm'
      · rw [ha] at ha'
        injection ha' with g
        injection g with e1 g
        injection g with e2 g
        injection g with e3 g
        injection g with e4 g
        subst e1 e2 e3 e4
        exact L
    obtain ⟨t, _, _, ⟨i1, i2, i3⟩, _, _⟩ := (sol_line hv L).1 hs
    have mono : ∀ f d l h : Int, t ≤ T → LeftOut f d l h T → In1 f d l h t → False := by
      intro f d l h ht ho hi
      unfold LeftOut at ho
      unfold In1 at hi
      rcases ho with ⟨h1, h2⟩ | ⟨h1, h2⟩
      · have := Int.mul_le_mul_of_nonneg_right ht h1; omega
      · have := Int.mul_le_mul_of_nonpos_right ht h1; omega
    have mono2 : ∀ f d l h : Int, T + 1 ≤ t → RightOut f d l h (T + 1) → In1 f d l h t → False := by
      intro f d l h ht ho hi
      unfold RightOut at ho
      unfold In1 at hi
      rcases ho with ⟨h1, h2⟩ | ⟨h1, h2⟩
      · have := Int.mul_le_mul_of_nonpos_right ht h1; omega
      · have := Int.mul_le_mul_of_nonneg_right ht h1; omega
    rcases Int.lt_or_le T t with ht | ht
    · rcases hR with g | g | g
      · exact mono2 _ _ _ _ (by omega) g i1
      · exact mono2 _ _ _ _ (by omega) g i2
      · exact mono2 _ _ _ _ (by omega) g i3
    · rcases hL with g | g | g
      · exact mono _ _ _ _ ht g i1
      · exact mono _ _ _ _ ht g i2
      · exact mono _ _ _ _ ht g i3
end Go.Proofs.Ytpfkhinbehegbaa.X
