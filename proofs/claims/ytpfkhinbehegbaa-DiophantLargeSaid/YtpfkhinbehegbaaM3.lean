/- Plain mathematics for layer 24: the line of all pairs of integers that satisfy an equation. -/
import Derived.Test.YtpfkhinbehegbaaM2
import Derived.Test.YtpfkhinbehegbaaXx8
set_option linter.unusedVariables false
namespace Go.Proofs.Ytpfkhinbehegbaa.X
open Go.RowKit Go.Proofs.YtpfkhinbehegbaaW.PrintWords Go.Proofs.YtpfkhinbehegbaaW.PrintLast Go.Proofs.YtpfkhinbehegbaaW.PrintMore

structure Line (A B C X Y DX DY : Int) : Prop where
  on : A * X + B * Y = C
  dir : A * DX + B * DY = 0
  full : ∀ x y, A * x + B * y = C → ∃ t, x = X + t * DX ∧ y = Y + t * DY
  dx : 0 ≤ DX ∧ DX ≤ 2147483648
  dy : -2147483648 ≤ DY ∧ DY ≤ 2147483648
  up : DX = 0 → B = 0 ∧ Y = 0 ∧ DY = 1 ∧ X = Int.tdiv C A
  across : DX ≠ 0 → B ≠ 0 ∧ DX = ((B.natAbs / Int.gcd A B : Nat) : Int) ∧ 0 ≤ X ∧ X < DX
  xb : -2305843009213693952 ≤ X ∧ X ≤ 2305843009213693952
  yb : -2305843011361177600 ≤ Y ∧ Y ≤ 2305843011361177600

theorem line_on {A B C g A' B' c' s t m X : Int} (hb : s * A + t * B = g) (hA : A = g * A') (hB : B = g * B') (hC : C = g * c') (hm : m = B' ∨ m = -B') (hX : X = ((s % m) * (c' % m)) % m) :
    ∃ Y, A * X + B * Y = C := by
  rw [← Int.mul_emod] at hX
  have hq := Int.mul_ediv_add_emod (s * c') m
  rw [← hX] at hq
  generalize s * c' / m = q at hq
  -- m * q + X = s * c'
  rcases hm with hm | hm <;> rw [hm] at hq
  · refine ⟨t * c' + A' * q, ?_⟩
    have : X = s * c' - B' * q := by omega
    rw [this]
    grind
  · refine ⟨t * c' - A' * q, ?_⟩
    have : X = s * c' + B' * q := by grind
    rw [this]
    grind
theorem line_full {A B C g A' B' s t X Y x y : Int} (hg : g ≠ 0) (hb : s * A + t * B = g) (hA : A = g * A') (hB : B = g * B') (h0 : A * X + B * Y = C) (h1 : A * x + B * y = C) :
    x = X + (t * (x - X) - s * (y - Y)) * B' ∧ y = Y - (t * (x - X) - s * (y - Y)) * A' := by
  have e1 : s * A' + t * B' = 1 := by
    apply Int.eq_of_mul_eq_mul_left hg
    rw [hA, hB] at hb
    grind
  have e2 : A' * (x - X) = -(B' * (y - Y)) := by
    apply Int.eq_of_mul_eq_mul_left hg
    rw [hA, hB] at h0 h1
    grind
  constructor
  · grind
  · grind

theorem natAbs_tdiv_le (C A : Int) : (Int.tdiv C A).natAbs ≤ C.natAbs := by
  rw [Int.natAbs_tdiv]; exact Nat.div_le_self _ _
theorem dvd_tdiv {g C : Int} (hg : g ≠ 0) (h : Int.tmod C g = 0) : C = g * Int.tdiv C g := by
  have := Int.mul_tdiv_add_tmod C g
  omega
theorem bound_mul {a b : Int} {m n : Nat} (ha : a.natAbs ≤ m) (hb : b.natAbs ≤ n) : (a * b).natAbs ≤ m * n := by
  rw [Int.natAbs_mul]; exact Nat.mul_le_mul ha hb
/-- what B * Y = C - A X says of the size of Y -/
theorem yb_of {A B C X Y m : Int} (h : A * X + B * Y = C) (hA : C31 A) (hB : B ≠ 0) (hC : C.natAbs ≤ 2305843009213693952) (hX0 : 0 ≤ X) (hX : X < m) (hm : m ≤ B.natAbs) : Y.natAbs ≤ 2305843011361177600 := by
  have h1 : (B * Y).natAbs ≤ 2305843009213693952 + 2147483648 * X.natAbs := by
    have : B * Y = C - A * X := by omega
    have h2 := bound_mul (a := A) (b := X) (m := 2147483648) (by unfold C31 at hA; omega) (Nat.le_refl _)
    omega
  rw [Int.natAbs_mul] at h1
  have hb1 : 1 ≤ B.natAbs := by omega
  have h3 : X.natAbs ≤ B.natAbs := by omega
  have h4 : B.natAbs * Y.natAbs ≤ B.natAbs * 2305843011361177600 := by omega
  exact Nat.le_of_mul_le_mul_left h4 (by omega)

theorem natAbs_gcd_dvd {A B : Int} : ∃ A' B' : Int, A = (Int.gcd A B : Int) * A' ∧ B = (Int.gcd A B : Int) * B' := by
  obtain ⟨a, ha⟩ := Int.gcd_dvd_left A B
  obtain ⟨b, hb⟩ := Int.gcd_dvd_right A B
  exact ⟨a, b, ha, hb⟩
theorem gcd_le {A B : Int} (hA : C31 A) (hB : C31 B) : Int.gcd A B ≤ 2147483648 := by
  unfold C31 at hA hB
  rcases Nat.eq_zero_or_pos A.natAbs with h0 | h0
  · unfold Int.gcd; rw [h0, Nat.gcd_zero_left]; omega
  · exact Nat.le_trans (Nat.gcd_le_left _ h0) (by omega)
theorem gcd_pos {A B : Int} (h : ¬ (A = 0 ∧ B = 0)) : 0 < Int.gcd A B := by
  rcases Nat.eq_zero_or_pos (Int.gcd A B) with h0 | h0
  · exact absurd (Int.gcd_eq_zero_iff.1 h0) h
  · exact h0

theorem all_none {A B C xl xh yl yh sl sh : Int} {k : Nat} (hk : 2147483660 ≤ k) (h : ¬ V A B C xl xh yl yh sl sh ∨ (A = 0 ∧ B = 0)) : diophant_All.f k A B C xl xh yl yh sl sh = some (0, 0, 0, 0, false) := by
  obtain ⟨k, rfl⟩ : ∃ m, k = m + 1 := ⟨k - 1, by omega⟩
  unfold diophant_All.f
  rw [valid_f (by omega), Option.bind_some]
  by_cases hv : V A B C xl xh yl yh sl sh
  · have h2 : A = 0 ∧ B = 0 := h.resolve_left (fun g => g hv)
    rw [if_pos (by simpa using hv), if_pos h2.1, h2.2]
    simp [diophant_All.j0]
  · rw [if_neg (by simpa using hv)]
    simp [diophant_All.j0]

/-- the line where B is not 0; m is |B| / g -/
theorem line_mk {A B C A' B' c' s t X : Int} {g : Nat} (hgp : 0 < g) (hge : Int.gcd A B = g) (hA : C31 A) (hB : C31 B) (hB0 : B ≠ 0) (hC : C.natAbs ≤ 2305843009213693952) (hb : s * A + t * B = g)
    (eA : A = g * A') (eB : B = g * B') (eC : C = g * c') (hX : X = ((s % (B'.natAbs : Int)) * (c' % (B'.natAbs : Int))) % (B'.natAbs : Int)) :
    ∃ Y, A * X + B * Y = C ∧ Line A B C X Y (B'.natAbs : Int) (if B < 0 then A' else -A') := by
  have hBn : B.natAbs = g * B'.natAbs := by rw [eB, Int.natAbs_mul]; simp
  have hAn : A.natAbs = g * A'.natAbs := by rw [eA, Int.natAbs_mul]; simp
  have hB'0 : B'.natAbs ≠ 0 := by
    intro h
    rw [h, Nat.mul_zero] at hBn
    omega
  have hB'l : B'.natAbs ≤ B.natAbs := by rw [hBn]; exact Nat.le_mul_of_pos_left _ hgp
  have hA'l : A'.natAbs ≤ A.natAbs := by rw [hAn]; exact Nat.le_mul_of_pos_left _ hgp
  have hqm : B.natAbs / g = B'.natAbs := by rw [hBn]; exact Nat.mul_div_cancel_left _ hgp
  have hBl : B.natAbs ≤ 2147483648 := by unfold C31 at hB; omega
  have hAl : A.natAbs ≤ 2147483648 := by unfold C31 at hA; omega
  have hmB : ((B'.natAbs : Nat) : Int) = B' ∨ ((B'.natAbs : Nat) : Int) = -B' := by omega
  obtain ⟨Y, hY⟩ := line_on hb eA eB eC hmB hX
  have hX0 : 0 ≤ X := by rw [hX]; exact Int.emod_nonneg _ (by omega)
  have hX1 : X < ((B'.natAbs : Nat) : Int) := by rw [hX]; exact Int.emod_lt_of_pos _ (by omega)
  have hYb := yb_of hY hA hB0 hC hX0 hX1 (by omega)
  have hfull : ∀ x y, A * x + B * y = C → x = X + (t * (x - X) - s * (y - Y)) * B' ∧ y = Y - (t * (x - X) - s * (y - Y)) * A' := fun x y h => line_full (by omega) hb eA eB hY h
  have hsg : (B < 0 ∧ ((B'.natAbs : Nat) : Int) = -B') ∨ (¬ B < 0 ∧ ((B'.natAbs : Nat) : Int) = B') := by
    rcases Int.lt_or_le B' 0 with h | h
    · exact .inl ⟨by rw [eB]; exact Int.mul_neg_of_pos_of_neg (by omega) h, by omega⟩
    · exact .inr ⟨by rw [eB]; have := Int.mul_nonneg (show (0 : Int) ≤ g by omega) h; omega, by omega⟩
  have hup : ((B'.natAbs : Nat) : Int) ≠ 0 := by omega
  have hac : ((B'.natAbs : Nat) : Int) = ((B.natAbs / Int.gcd A B : Nat) : Int) := by rw [hge, hqm]
  have hdx : 0 ≤ ((B'.natAbs : Nat) : Int) ∧ ((B'.natAbs : Nat) : Int) ≤ 2147483648 := by omega
  have hA2 : -2147483648 ≤ A' ∧ A' ≤ 2147483648 := by omega
  have hxb : -2305843009213693952 ≤ X ∧ X ≤ 2305843009213693952 := by omega
  have hyb : -2305843011361177600 ≤ Y ∧ Y ≤ 2305843011361177600 := by omega
  clear hYb hBn hAn hB'0 hB'l hA'l hqm hBl hAl hmB hX hC hA hB hgp hge
  refine ⟨Y, hY, ?_⟩
  rcases hsg with ⟨hneg, hB'n⟩ | ⟨hneg, hB'n⟩
  · rw [if_pos hneg]
    exact {
      on := hY
      dir := by rw [hB'n, eA, eB]; grind
      full := fun x y h => ⟨-(t * (x - X) - s * (y - Y)), by
        obtain ⟨h1, h2⟩ := hfull x y h
        rw [hB'n]
        generalize t * (x - X) - s * (y - Y) = u at *
        exact ⟨by rw [h1]; grind, by rw [h2]; grind⟩⟩
      dx := hdx
      dy := hA2
      up := fun h => absurd h hup
      across := fun _ => ⟨hB0, hac, hX0, hX1⟩
      xb := hxb
      yb := hyb }
  · rw [if_neg hneg]
    exact {
      on := hY
      dir := by rw [hB'n, eA, eB]; grind
      full := fun x y h => ⟨(t * (x - X) - s * (y - Y)), by
        obtain ⟨h1, h2⟩ := hfull x y h
        rw [hB'n]
        generalize t * (x - X) - s * (y - Y) = u at *
        exact ⟨h1, by rw [h2]; grind⟩⟩
      dx := hdx
      dy := by omega
      up := fun h => absurd h hup
      across := fun _ => ⟨hB0, hac, hX0, hX1⟩
      xb := hxb
      yb := hyb }
theorem line_up {A B C : Int} {g : Nat} (hA0 : A ≠ 0) (hB0 : B = 0) (hC : C.natAbs ≤ 2305843009213693952) (hgA : (g : Int) = A ∨ (g : Int) = -A) (hm : Int.tmod C g = 0) : Line A B C (Int.tdiv C A) 0 0 1 := by
  have hca := natAbs_tdiv_le C A
  have hAC : C = A * Int.tdiv C A := by
    refine dvd_tdiv hA0 ?_
    rcases hgA with h | h
    · rw [← h]; exact hm
    · rw [show A = -(g : Int) by omega, Int.tmod_neg]; exact hm
  subst hB0
  exact {
    on := by rw [← hAC]; omega
    dir := by omega
    full := fun x y h => ⟨y, by
      rw [Int.zero_mul, Int.add_zero] at h
      have := Int.eq_of_mul_eq_mul_left hA0 (h.trans hAC)
      omega, by omega⟩
    dx := by omega
    dy := by omega
    up := fun _ => ⟨rfl, rfl, rfl, rfl⟩
    across := fun h => absurd rfl h
    xb := by omega
    yb := by omega }

theorem w64_prod {p q : Int} (h0 : 0 ≤ p) (h1 : p ≤ 2147483648) (h2 : 0 ≤ q) (h3 : q ≤ 2147483648) : wrap64 (p * q) = p * q := by
  have := bound_mul (a := p) (b := q) (m := 2147483648) (n := 2147483648) (by omega) (by omega)
  exact w64 (by omega) (by omega)
theorem w64_mods {s c m : Int} (hm : 0 < m) (hm2 : m ≤ 2147483648) : wrap64 (s % m * (c % m)) = s % m * (c % m) := by
  have e1 := Int.emod_nonneg s (show m ≠ 0 by omega)
  have e2 := Int.emod_lt_of_pos s hm
  have e3 := Int.emod_nonneg c (show m ≠ 0 by omega)
  have e4 := Int.emod_lt_of_pos c hm
  exact w64_prod e1 (Int.le_trans (Int.le_of_lt e2) hm2) e3 (Int.le_trans (Int.le_of_lt e4) hm2)

theorem w64_c31 {n : Int} (h : C31 n) : wrap64 n = n := w64 (by unfold C31 at h; omega) (by unfold C31 at h; omega)
theorem w64_ax {A X m : Int} (hA : C31 A) (h0 : 0 ≤ X) (h1 : X < m) (hm : m ≤ 2147483648) : wrap64 (A * X) = A * X := by
  have := bound_mul (a := A) (b := X) (m := 2147483648) (n := 2147483648) (by unfold C31 at hA; omega) (by omega)
  exact w64 (by omega) (by omega)
theorem w64_by {A B C X Y m : Int} (hA : C31 A) (h0 : 0 ≤ X) (h1 : X < m) (hm : m ≤ 2147483648) (hC : C.natAbs ≤ 2305843009213693952) (hY : A * X + B * Y = C) : wrap64 (B * Y) = B * Y := by
  have := bound_mul (a := A) (b := X) (m := 2147483648) (n := 2147483648) (by unfold C31 at hA; omega) (by omega)
  exact w64 (by omega) (by omega)
theorem all_tail {A B C A' B' s c : Int} (hA : C31 A) (hB0 : B ≠ 0) (hC : C.natAbs ≤ 2305843009213693952) {Y : Int}
    (hY : A * (s % (B'.natAbs : Int) * (c % (B'.natAbs : Int)) % (B'.natAbs : Int)) + B * Y = C)
    (hL : Line A B C (s % (B'.natAbs : Int) * (c % (B'.natAbs : Int)) % (B'.natAbs : Int)) Y (B'.natAbs : Int) (if B < 0 then A' else -A')) :
    ∃ X Y DX DY, (if B < 0 then ((diophant_modulo.f s (wrap64 (B'.natAbs : Int))).bind fun t118 => ((diophant_modulo.f c (wrap64 (B'.natAbs : Int))).bind fun t119 => ((diophant_modulo.f (wrap64 (t118 * t119)) (wrap64 (B'.natAbs : Int))).bind fun t120 => (some (t120, wrap64 (Int.tdiv (wrap64 (C - (wrap64 (A * t120)))) B), wrap64 (B'.natAbs : Int), wrap64 A', true))))) else ((diophant_modulo.f s (wrap64 (B'.natAbs : Int))).bind fun t121 => ((diophant_modulo.f c (wrap64 (B'.natAbs : Int))).bind fun t122 => ((diophant_modulo.f (wrap64 (t121 * t122)) (wrap64 (B'.natAbs : Int))).bind fun t123 => (some (t123, wrap64 (Int.tdiv (wrap64 (C - (wrap64 (A * t123)))) B), wrap64 (B'.natAbs : Int), wrap64 (-A'), true)))))) = some (X, Y, DX, DY, true) ∧ Line A B C X Y DX DY := by
  have hdx := hL.dx
  have hdy := hL.dy
  have hyb := hL.yb
  have hac := hL.across (fun h => hB0 (hL.up h).1)
  have hm0 : (0 : Int) < (B'.natAbs : Int) := Int.lt_of_le_of_lt hac.2.2.1 hac.2.2.2
  have W2 : wrap64 (B'.natAbs : Int) = (B'.natAbs : Int) := w64 (by omega) (by omega)
  have W3 := w64_mods (s := s) (c := c) hm0 hdx.2
  have hm1 : (B'.natAbs : Int) ≤ 9223372036854775807 := Int.le_trans hdx.2 (by decide)
  have W4 := w64_ax hA hac.2.2.1 hac.2.2.2 hdx.2
  have W5 := w64_by hA hac.2.2.1 hac.2.2.2 hdx.2 hC hY
  have W6 : wrap64 Y = Y := w64 (Int.le_trans (by decide) hyb.1) (Int.le_trans hyb.2 (by decide))
  have e5 := Int.sub_eq_iff_eq_add'.2 hY.symm
  rw [W2, modulo_f hm0 hm1, modulo_f hm0 hm1]
  simp only [Option.bind_some]
  rw [W3, modulo_f hm0 hm1]
  simp only [Option.bind_some]
  rw [W4, e5, W5, Int.mul_tdiv_cancel_left _ hB0, W6]
  by_cases hneg : B < 0
  · rw [if_pos hneg] at hL hdy
    rw [if_pos hneg, w64_c31 hdy]
    exact ⟨_, Y, _, _, rfl, hL⟩
  · rw [if_neg hneg] at hL hdy
    rw [if_neg hneg, w64_c31 hdy]
    exact ⟨_, Y, _, _, rfl, hL⟩

theorem all_j0 {A B C xl xh yl yh sl sh : Int} {k : Nat} (hk : 2147483655 ≤ k) (hA : C31 A) (hB : C31 B) (hC : C.natAbs ≤ 2305843009213693952) (h0 : ¬ (A = 0 ∧ B = 0)) :
    (Int.tmod C (Int.gcd A B) ≠ 0 ∧ diophant_All.j0 k false A B C xl xh yl yh sl sh = some (0, 0, 0, 0, false)) ∨
    (Int.tmod C (Int.gcd A B) = 0 ∧ ∃ X Y DX DY, diophant_All.j0 k false A B C xl xh yl yh sl sh = some (X, Y, DX, DY, true) ∧ Line A B C X Y DX DY) := by
  obtain ⟨k, rfl⟩ : ∃ m, k = m + 1 := ⟨k - 1, by omega⟩
  have hlA : lim A = A := lim_id hA.1 hA.2
  have hlB : lim B = B := lim_id hB.1 hB.2
  obtain ⟨s, t, hg, hb, hs, ht⟩ := gcd_f k A B (by omega)
  rw [hlA, hlB] at hg hb
  have hgp := gcd_pos h0
  have hgl := gcd_le hA hB
  obtain ⟨A', B', eA, eB⟩ := natAbs_gcd_dvd (A := A) (B := B)
  generalize hge : Int.gcd A B = g at *
  have hgz : ((g : Nat) : Int) ≠ 0 := by omega
  simp only [diophant_All.j0]
  rw [if_neg (by simp), hg, Option.bind_some]
  dsimp only
  rw [if_neg hgz]
  by_cases hm : Int.tmod C g = 0
  · right
    refine ⟨hm, ?_⟩
    rw [if_pos hm]
    have eC := dvd_tdiv hgz hm
    have hc' := natAbs_tdiv_le C (g : Int)
    have W1 : wrap64 (Int.tdiv C g) = Int.tdiv C g := w64 (by omega) (by omega)
    by_cases hB0 : B = 0
    · rw [if_pos hB0]
      have hA0 : A ≠ 0 := fun h => h0 ⟨h, hB0⟩
      have hca := natAbs_tdiv_le C A
      have hgA : (g : Int) = A ∨ (g : Int) = -A := by
        rw [← hge, hB0, Int.gcd_zero_right]; omega
      rw [if_neg hA0, w64 (by omega) (by omega)]
      exact ⟨Int.tdiv C A, 0, 0, 1, rfl, line_up hA0 hB0 hC hgA hm⟩
    · have hBa : diophant_abs.f B = some ((B.natAbs : Nat) : Int) := abs_f (by unfold C31 at hB; omega) (by unfold C31 at hB; omega)
      have hBn : B.natAbs = g * B'.natAbs := by rw [eB, Int.natAbs_mul]; simp
      have hqm : B.natAbs / g = B'.natAbs := by rw [hBn]; exact Nat.mul_div_cancel_left _ hgp
      have hq : Int.tdiv (B.natAbs : Int) (g : Int) = ((B'.natAbs : Nat) : Int) := by rw [← hqm]; rfl
      have hAA : Int.tdiv A g = A' := by rw [eA]; exact Int.mul_tdiv_cancel_left _ hgz
      have hNA : Int.tdiv (-A) g = -A' := by rw [eA, show -((g : Int) * A') = g * -A' by grind]; exact Int.mul_tdiv_cancel_left _ hgz
      obtain ⟨Y, hY, hL⟩ := line_mk hgp hge hA hB hB0 hC hb eA eB eC rfl
      rw [if_neg hB0, hBa, Option.bind_some, hq, W1, hAA, w64_c31 (n := -A) (by unfold C31 at hA ⊢; omega), hNA]
      exact all_tail hA hB0 hC hY hL
  · left
    exact ⟨hm, by rw [if_neg hm]⟩

theorem all_f {A B C xl xh yl yh sl sh : Int} {k : Nat} (hk : 2147483660 ≤ k) (hv : V A B C xl xh yl yh sl sh) (h0 : ¬ (A = 0 ∧ B = 0)) :
    (Int.tmod C (Int.gcd A B) ≠ 0 ∧ diophant_All.f k A B C xl xh yl yh sl sh = some (0, 0, 0, 0, false)) ∨
    (Int.tmod C (Int.gcd A B) = 0 ∧ ∃ X Y DX DY, diophant_All.f k A B C xl xh yl yh sl sh = some (X, Y, DX, DY, true) ∧ Line A B C X Y DX DY) := by
  have : diophant_All.f k A B C xl xh yl yh sl sh = diophant_All.j0 k false A B C xl xh yl yh sl sh := by
    unfold diophant_All.f
    rw [valid_f (by omega), Option.bind_some, if_pos (by simpa using hv)]
    by_cases hA : A = 0
    · rw [if_pos hA, show (B == 0) = false from beq_eq_false_iff_ne.2 (fun h => h0 ⟨hA, h⟩)]
    · rw [if_neg hA]
  rw [this]
  exact all_j0 (by omega) hv.1 hv.2.1 (by unfold V at hv; omega) h0
end Go.Proofs.Ytpfkhinbehegbaa.X
