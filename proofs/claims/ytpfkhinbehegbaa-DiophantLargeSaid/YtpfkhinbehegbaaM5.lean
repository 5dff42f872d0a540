/- Plain mathematics for layer 24: what Solve returns. -/
import Derived.Test.YtpfkhinbehegbaaM4
import Derived.Test.YtpfkhinbehegbaaXx14
set_option linter.unusedVariables false
namespace Go.Proofs.Ytpfkhinbehegbaa.X
open Go.RowKit Go.Proofs.YtpfkhinbehegbaaW.PrintWords Go.Proofs.YtpfkhinbehegbaaW.PrintLast Go.Proofs.YtpfkhinbehegbaaW.PrintMore

def Sol (A B C xl xh yl yh sl sh x y : Int) : Prop := xl ≤ x ∧ x ≤ xh ∧ yl ≤ y ∧ y ≤ yh ∧ sl ≤ x + y ∧ x + y ≤ sh ∧ A * x + B * y = C
def InAll (xl xh yl yh sl sh X Y DX DY t : Int) : Prop := In1 X DX xl xh t ∧ In1 Y DY yl yh t ∧ In1 (X + Y) (DX + DY) sl sh t
def LeftAll (xl xh yl yh sl sh X Y DX DY t : Int) : Prop := LeftOut X DX xl xh t ∨ LeftOut Y DY yl yh t ∨ LeftOut (X + Y) (DX + DY) sl sh t
def RightAll (xl xh yl yh sl sh X Y DX DY t : Int) : Prop := RightOut X DX xl xh t ∨ RightOut Y DY yl yh t ∨ RightOut (X + Y) (DX + DY) sl sh t

theorem line_sum {A B C X Y DX DY : Int} (L : Line A B C X Y DX DY) : -2305843013508661248 ≤ X + Y ∧ X + Y ≤ 2305843013508661248 := by
  have h1 := L.xb
  have h2 := L.yb
  have h3 := L.dx
  by_cases h : DX = 0
  · have := L.up h; omega
  · have := L.across h; omega
theorem line_nz {A B C X Y DX DY : Int} (L : Line A B C X Y DX DY) : DX ≠ 0 ∨ DY ≠ 0 := by
  by_cases h : DX = 0
  · have := L.up h; omega
  · exact .inl h

theorem within_f {A B C xl xh yl yh sl sh X Y DX DY : Int} (hv : V A B C xl xh yl yh sl sh) (L : Line A B C X Y DX DY) :
    ∃ lo hi c, diophant_within.f A B C xl xh yl yh sl sh X Y DX DY = some (lo, hi, c) ∧ Inv (InAll xl xh yl yh sl sh X Y DX DY) (LeftAll xl xh yl yh sl sh X Y DX DY) (RightAll xl xh yl yh sl sh X Y DX DY) True lo hi c := by
  obtain ⟨hA, hB, h1, h2, h3, h4, h5, h6, h7, h8⟩ := hv
  have hs := line_sum L
  have hx := L.xb
  have hy := L.yb
  have hdx := L.dx
  have hdy := L.dy
  obtain ⟨a1, b1, c1, e1, P1⟩ := par_f (f := X) (d := DX) (l := xl) (h := xh) (by omega) (by omega) h1 h2
  obtain ⟨a2, b2, c2, e2, P2⟩ := par_f (f := Y) (d := DY) (l := yl) (h := yh) (by omega) (by omega) h3 h4
  obtain ⟨a3, b3, c3, e3, P3⟩ := par_f (f := X + Y) (d := DX + DY) (l := sl) (h := sh) (by omega) (by omega) h5 h6
  have I0 := inv_step (inv_step (inv_step inv_start P1) P2) P3
  obtain ⟨st, hst⟩ : ∃ st, st = within1 (within1 (within1 (-4611686018427387904, 4611686018427387904, false) (a1, b1, c1)) (a2, b2, c2)) (a3, b3, c3) := ⟨_, rfl⟩
  have I : Inv (fun t => ((True ∧ In1 X DX xl xh t) ∧ In1 Y DY yl yh t) ∧ In1 (X + Y) (DX + DY) sl sh t) (fun t => ((False ∨ LeftOut X DX xl xh t) ∨ LeftOut Y DY yl yh t) ∨ LeftOut (X + Y) (DX + DY) sl sh t)
      (fun t => ((False ∨ RightOut X DX xl xh t) ∨ RightOut Y DY yl yh t) ∨ RightOut (X + Y) (DX + DY) sl sh t) (((False ∨ DX ≠ 0) ∨ DY ≠ 0) ∨ DX + DY ≠ 0) st.1 st.2.1 st.2.2 := by rw [hst]; exact I0
  clear I0
  refine ⟨st.1, st.2.1, st.2.2, ?_, ?_⟩
  · unfold diophant_within.f
    rw [w64 (x := X + Y) (by omega) (by omega), w64 (x := DX + DY) (by omega) (by omega), e1, e2, e3, hst]
    rfl
  · have hz : ((False ∨ DX ≠ 0) ∨ DY ≠ 0) ∨ DX + DY ≠ 0 := by
      rcases line_nz L with h | h
      · exact .inl (.inl (.inr h))
      · exact .inl (.inr h)
    exact {
      yes := fun hc t h0 h1 => by
        have := I.yes hc t h0 h1
        unfold InAll
        constructor
        · rintro ⟨g1, g2, g3⟩; exact this.1 ⟨⟨⟨trivial, g1⟩, g2⟩, g3⟩
        · intro g; obtain ⟨⟨⟨_, g1⟩, g2⟩, g3⟩ := this.2 g; exact ⟨g1, g2, g3⟩
      no := fun hc t => by
        obtain ⟨g1, g2, g3⟩ := I.no hc t
        refine ⟨fun g => g1 ⟨⟨⟨trivial, g.1⟩, g.2.1⟩, g.2.2⟩, ?_, ?_⟩
        · rcases g2 with ((g | g) | g) | g
          · exact g.elim
          · exact .inl g
          · exact .inr (.inl g)
          · exact .inr (.inr g)
        · rcases g3 with ((g | g) | g) | g
          · exact g.elim
          · exact .inl g
          · exact .inr (.inl g)
          · exact .inr (.inr g)
      left := by
        rcases I.left with g | g
        · exact .inl g
        · refine .inr fun t ht => ?_
          rcases g t ht with ((g | g) | g) | g
          · exact g.elim
          · exact .inl g
          · exact .inr (.inl g)
          · exact .inr (.inr g)
      right := by
        rcases I.right with g | g
        · exact .inl g
        · refine .inr fun t ht => ?_
          rcases g t ht with ((g | g) | g) | g
          · exact g.elim
          · exact .inl g
          · exact .inr (.inl g)
          · exact .inr (.inr g)
      low := I.low
      high := I.high
      nz := fun _ => I.nz hz }

theorem tmod_dvd {A B C x y : Int} (h : A * x + B * y = C) : Int.tmod C (Int.gcd A B) = 0 := by
  have h1 := Int.gcd_dvd_left A B
  have h2 := Int.gcd_dvd_right A B
  have : (Int.gcd A B : Int) ∣ C := by
    rw [← h]; exact Int.dvd_add (Int.dvd_mul_of_dvd_left h1) (Int.dvd_mul_of_dvd_left h2)
  exact Int.tmod_eq_zero_of_dvd this

theorem abs_le_mul {t d : Int} (hd : d ≠ 0) : t.natAbs ≤ (t * d).natAbs := by
  rw [Int.natAbs_mul]; exact Nat.le_mul_of_pos_right _ (by omega)
/-- the solutions are those of the line, and their parameters are not great -/
theorem sol_line {A B C xl xh yl yh sl sh X Y DX DY x y : Int} (hv : V A B C xl xh yl yh sl sh) (L : Line A B C X Y DX DY) :
    Sol A B C xl xh yl yh sl sh x y ↔ ∃ t, -4611686018427387904 ≤ t ∧ t ≤ 4611686018427387904 ∧ InAll xl xh yl yh sl sh X Y DX DY t ∧ x = X + t * DX ∧ y = Y + t * DY := by
  obtain ⟨hA, hB, h1, h2, h3, h4, h5, h6, h7, h8⟩ := hv
  constructor
  · rintro ⟨g1, g2, g3, g4, g5, g6, g7⟩
    obtain ⟨t, ht1, ht2⟩ := L.full x y g7
    have hsum : X + Y + t * (DX + DY) = x + y := by rw [Int.mul_add]; omega
    refine ⟨t, ?_, ?_, ⟨⟨by omega, by omega⟩, ⟨by omega, by omega⟩, ⟨by omega, by omega⟩⟩, ht1, ht2⟩
    all_goals
      unfold C31 at h1 h2 h3 h4
      by_cases hz : DX = 0
      · obtain ⟨_, hY, hD, _⟩ := L.up hz
        rw [hD] at ht2
        omega
      · have := abs_le_mul (t := t) hz
        have := L.across hz
        have := L.dx
        omega
  · rintro ⟨t, _, _, ⟨⟨g1, g2⟩, ⟨g3, g4⟩, ⟨g5, g6⟩⟩, rfl, rfl⟩
    rw [Int.mul_add] at g5 g6
    refine ⟨by omega, by omega, by omega, by omega, by omega, by omega, ?_⟩
    have e1 := L.on
    have e2 := L.dir
    have : A * (X + t * DX) + B * (Y + t * DY) = (A * X + B * Y) + t * (A * DX + B * DY) := by grind
    rw [this, e1, e2]; omega

def Void (xl xh yl yh sl sh : Int) : Prop := xl > xh ∨ yl > yh ∨ max (xl + yl) sl > min (xh + yh) sh
instance (xl xh yl yh sl sh : Int) : Decidable (Void xl xh yl yh sl sh) := by unfold Void; infer_instance
theorem void_f {A B C xl xh yl yh sl sh : Int} (hv : V A B C xl xh yl yh sl sh) : diophant_void.f A B C xl xh yl yh sl sh = some (decide (Void xl xh yl yh sl sh)) := by
  obtain ⟨hA, hB, h1, h2, h3, h4, h5, h6, h7, h8⟩ := hv
  unfold C31 at *
  unfold diophant_void.f Void
  rw [mx_def, mn_def, w64 (by omega) (by omega), w64 (by omega) (by omega)]
  by_cases g1 : xl > xh
  · rw [if_pos g1]; simp [g1]
  · rw [if_neg g1]
    by_cases g2 : yl > yh
    · rw [if_pos g2]; simp [g2]
    · rw [if_neg g2]; simp [g1, g2]
theorem void_none {A B C xl xh yl yh sl sh : Int} (h : Void xl xh yl yh sl sh) (x y : Int) : ¬ Sol A B C xl xh yl yh sl sh x y := by
  unfold Void at h; rintro ⟨g1, g2, g3, g4, g5, g6, g7⟩; omega

/-- the solution with the least y, then the least x -/
def Least (A B C xl xh yl yh sl sh x y : Int) : Prop := Sol A B C xl xh yl yh sl sh x y ∧ ∀ x' y', Sol A B C xl xh yl yh sl sh x' y' → y < y' ∨ (y = y' ∧ x ≤ x')

theorem solve_f {A B C xl xh yl yh sl sh : Int} {k : Nat} (hk : 2147483670 ≤ k) (hv : V A B C xl xh yl yh sl sh) :
    (∃ x y, diophant_Solve.f k A B C xl xh yl yh sl sh = some (x, y, true) ∧ Least A B C xl xh yl yh sl sh x y) ∨
    (diophant_Solve.f k A B C xl xh yl yh sl sh = some (0, 0, false) ∧ ∀ x y, ¬ Sol A B C xl xh yl yh sl sh x y) := by
  obtain ⟨k, rfl⟩ : ∃ m, k = m + 3 := ⟨k - 3, by omega⟩
  have hb := hv
  obtain ⟨hA, hB, h1, h2, h3, h4, h5, h6, h7, h8⟩ := hb
  unfold diophant_Solve.f
  rw [valid_f (by omega), Option.bind_some, if_pos (by simpa using hv), void_f hv, Option.bind_some]
  simp only [diophant_Solve.j0]
  by_cases hvd : Void xl xh yl yh sl sh
  · rw [if_pos (by simpa using hvd)]
    exact .inr ⟨rfl, void_none hvd⟩
  rw [if_neg (by simpa using hvd)]
  by_cases h0 : A = 0 ∧ B = 0
  · obtain ⟨rfl, rfl⟩ := h0
    rw [if_pos rfl, show ((0 : Int) == 0) = true from rfl]
    simp only [diophant_Solve.j1]
    rw [if_pos trivial]
    by_cases hC : C = 0
    · rw [if_pos hC]
      unfold C31 at *
      unfold Void at hvd
      rw [mx_def, w64 (x := sl - xh) (by omega) (by omega), mx_def, w64 (by omega) (by omega)]
      refine .inl ⟨_, _, rfl, ⟨by omega, by omega, by omega, by omega, by omega, by omega, by omega⟩, ?_⟩
      rintro x' y' ⟨g1, g2, g3, g4, g5, g6, g7⟩
      omega
    · rw [if_neg hC]
      exact .inr ⟨rfl, fun x y h => hC (by have := h.2.2.2.2.2.2; omega)⟩
  · have hj : (if A = 0 then diophant_Solve.j1 (k + 2) (B == 0) A B C xl xh yl yh sl sh else diophant_Solve.j1 (k + 2) false A B C xl xh yl yh sl sh) = diophant_Solve.j1 (k + 2) false A B C xl xh yl yh sl sh := by
      by_cases hz : A = 0
      · rw [if_pos hz, show (B == 0) = false from beq_eq_false_iff_ne.2 (fun h => h0 ⟨hz, h⟩)]
      · rw [if_neg hz]
    rw [hj]
    simp only [diophant_Solve.j1]
    rw [if_neg (by simp)]
    rcases all_f (k := k + 1) (by omega) hv h0 with ⟨hm, hall⟩ | ⟨hm, X, Y, DX, DY, hall, L⟩
    · rw [hall, Option.bind_some]
      dsimp only
      rw [if_neg (by simp)]
      exact .inr ⟨rfl, fun x y h => hm (tmod_dvd h.2.2.2.2.2.2)⟩
    · rw [hall, Option.bind_some]
      dsimp only
      rw [if_pos rfl]
      obtain ⟨lo, hi, c, hw, I⟩ := within_f hv L
      rw [hw, Option.bind_some]
      dsimp only
      have hj2 : (if c = true then diophant_Solve.j2 (k + 1) lo hi true X Y DX DY else diophant_Solve.j2 (k + 1) lo hi (decide (lo > hi)) X Y DX DY) = diophant_Solve.j2 (k + 1) lo hi (c || decide (lo > hi)) X Y DX DY := by
        cases c <;> simp
      rw [hj2]
      simp only [diophant_Solve.j2]
      by_cases hc : (c || decide (lo > hi)) = true
      · rw [if_pos hc]
        refine .inr ⟨rfl, fun x y h => ?_⟩
        obtain ⟨t, t0, t1, hin, _, _⟩ := (sol_line hv L).1 h
        cases c with
        | true => exact (I.no rfl t).1 hin
        | false =>
          have := (I.yes rfl t t0 t1).1 hin
          simp at hc
          omega
      · rw [if_neg hc]
        have hcf : c = false := by cases c <;> simp_all
        have hlh : lo ≤ hi := by subst hcf; simp at hc; omega
        have hlow := I.low
        have hhigh := I.high
        have key : ∀ t, lo ≤ t → t ≤ hi → Sol A B C xl xh yl yh sl sh (X + t * DX) (Y + t * DY) := fun t ht0 ht1 =>
          (sol_line hv L).2 ⟨t, by omega, by omega, (I.yes hcf t (by omega) (by omega)).2 ⟨ht0, ht1⟩, rfl, rfl⟩
        have wr : ∀ t, lo ≤ t → t ≤ hi → wrap64 (X + wrap64 (t * DX)) = X + t * DX ∧ wrap64 (Y + wrap64 (t * DY)) = Y + t * DY := fun t ht0 ht1 => by
          have hs := key t ht0 ht1
          have hx := L.xb
          have hy := L.yb
          obtain ⟨g1, g2, g3, g4, -, -, -⟩ := hs
          unfold C31 at *
          rw [w64 (x := t * DX) (by omega) (by omega), w64 (x := t * DY) (by omega) (by omega)]
          exact ⟨w64 (by omega) (by omega), w64 (by omega) (by omega)⟩
        have par : ∀ x' y', Sol A B C xl xh yl yh sl sh x' y' → ∃ t, lo ≤ t ∧ t ≤ hi ∧ x' = X + t * DX ∧ y' = Y + t * DY := fun x' y' h => by
          obtain ⟨t, t0, t1, hin, e1, e2⟩ := (sol_line hv L).1 h
          have := (I.yes hcf t t0 t1).1 hin
          exact ⟨t, this.1, this.2, e1, e2⟩
        left
        by_cases hneg : DY < 0
        · rw [if_pos hneg, (wr hi hlh (Int.le_refl _)).1, (wr hi hlh (Int.le_refl _)).2]
          refine ⟨_, _, rfl, key hi hlh (Int.le_refl _), fun x' y' h => ?_⟩
          obtain ⟨t, t0, t1, rfl, rfl⟩ := par x' y' h
          rcases Int.lt_or_eq_of_le t1 with h | rfl
          · left
            have := Int.mul_lt_mul_of_neg_right h hneg
            omega
          · right; omega
        · rw [if_neg hneg, (wr lo (Int.le_refl _) hlh).1, (wr lo (Int.le_refl _) hlh).2]
          refine ⟨_, _, rfl, key lo (Int.le_refl _) hlh, fun x' y' h => ?_⟩
          obtain ⟨t, t0, t1, rfl, rfl⟩ := par x' y' h
          rcases Int.lt_or_eq_of_le t0 with h | rfl
          · rcases Int.lt_or_eq_of_le (show 0 ≤ DY by omega) with hp | hz
            · left
              have := Int.mul_lt_mul_of_pos_right h hp
              omega
            · right
              rw [← hz, Int.mul_zero, Int.mul_zero]
              have hdx := L.dx
              have := Int.mul_le_mul_of_nonneg_right t0 hdx.1
              omega
          · right; omega
end Go.Proofs.Ytpfkhinbehegbaa.X
