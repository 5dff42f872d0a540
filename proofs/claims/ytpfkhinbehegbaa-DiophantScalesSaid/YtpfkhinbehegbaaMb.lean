/- Plain mathematics for layer 24: the parameters of a line within the ranges. -/
import Derived.Test.YtpfkhinbehegbaaMa
import Derived.Test.YtpfkhinbehegbaaXx11
import Derived.Test.YtpfkhinbehegbaaXx12
import Derived.Test.YtpfkhinbehegbaaXx13
import Derived.Test.YtpfkhinbehegbaaXx14
set_option linter.unusedVariables false
namespace Go.Proofs.Ytpfkhinbehegbaa.X
open Go.RowKit Go.Proofs.YtpfkhinbehegbaaW.PrintWords Go.Proofs.YtpfkhinbehegbaaW.PrintLast Go.Proofs.YtpfkhinbehegbaaW.PrintMore

def In1 (f d l h t : Int) : Prop := l ≤ f + t * d ∧ f + t * d ≤ h
def LeftOut (f d l h t : Int) : Prop := (0 ≤ d ∧ f + t * d < l) ∨ (d ≤ 0 ∧ h < f + t * d)
def RightOut (f d l h t : Int) : Prop := (d ≤ 0 ∧ f + t * d < l) ∨ (0 ≤ d ∧ h < f + t * d)
structure Par (f d l h lo hi : Int) (all : Bool) : Prop where
  pos : 0 < d → all = false ∧ (∀ t, t < lo ↔ f + t * d < l) ∧ (∀ t, hi < t ↔ h < f + t * d)
  neg : d < 0 → all = false ∧ (∀ t, t < lo ↔ h < f + t * d) ∧ (∀ t, hi < t ↔ f + t * d < l)
  zero : d = 0 → all = true ∧ ((l ≤ f ∧ f ≤ h ∧ lo = -4611686018427387904 ∧ hi = 4611686018427387904) ∨ (¬ (l ≤ f ∧ f ≤ h) ∧ lo = 0 ∧ hi = -1))
  bound : d ≠ 0 → -4611686018427387904 < lo ∧ lo < 4611686018427387904 ∧ -4611686018427387904 < hi ∧ hi < 4611686018427387904

theorem ediv_bound {n d M : Int} (hd : 0 < d) (h0 : -M ≤ n) (h1 : n ≤ M) (hM : 0 ≤ M) : -M ≤ n / d ∧ n / d ≤ M := by
  constructor
  · apply Int.le_ediv_of_mul_le hd
    have : M * 1 ≤ M * d := Int.mul_le_mul_of_nonneg_left (by omega) hM
    rw [Int.neg_mul]; omega
  · refine Int.le_of_lt_add_one (Int.ediv_lt_of_lt_mul hd ?_)
    have : M * 1 ≤ M * d := Int.mul_le_mul_of_nonneg_left (by omega) hM
    rw [Int.add_mul]; omega
theorem lt_neg_ediv {n d t : Int} (hd : 0 < d) : t < -(n / d) ↔ n + t * d < 0 := by
  rw [show t < -(n / d) ↔ n / d < -t by omega, Int.ediv_lt_iff_lt_mul hd, Int.neg_mul]; omega
theorem ediv_lt' {n d t : Int} (hd : 0 < d) : n / d < t ↔ n < t * d := Int.ediv_lt_iff_lt_mul hd

theorem par_f {f d l h : Int} (hf : -2305843015656144896 ≤ f ∧ f ≤ 2305843015656144896) (hd : -4294967296 ≤ d ∧ d ≤ 4294967296) (hl : C31 l) (hh : C31 h) :
    ∃ lo hi all, diophant_coordinate_parameters.f f d l h = some (lo, hi, all) ∧ Par f d l h lo hi all := by
  unfold C31 at hl hh
  unfold diophant_coordinate_parameters.f
  have W1 : wrap64 (f - l) = f - l := w64 (by omega) (by omega)
  have W2 : wrap64 (h - f) = h - f := w64 (by omega) (by omega)
  rw [W1, W2]
  by_cases h1 : d > 0
  · have hb1 := ediv_bound (n := f - l) (M := 2305843017803628544) h1 (by omega) (by omega) (by omega)
    have hb2 := ediv_bound (n := h - f) (M := 2305843017803628544) h1 (by omega) (by omega) (by omega)
    rw [if_pos h1, floor_f h1 (by omega) (by omega) (by omega), floor_f h1 (by omega) (by omega) (by omega)]
    simp only [Option.bind_some]
    have q1 : ∀ t, t < -((f - l) / d) ↔ f + t * d < l := fun t => by rw [lt_neg_ediv h1]; omega
    have q2 : ∀ t, (h - f) / d < t ↔ h < f + t * d := fun t => by rw [ediv_lt' h1]; omega
    generalize (f - l) / d = a at *
    generalize (h - f) / d = b at *
    rw [w64 (by omega) (by omega)]
    exact ⟨_, _, _, rfl, ⟨fun _ => ⟨rfl, q1, q2⟩, fun g => by omega, fun g => by omega, fun _ => by omega⟩⟩
  · rw [if_neg h1]
    by_cases h2 : d < 0
    · have h3 : 0 < -d := by omega
      have W3 : wrap64 (-d) = -d := w64 (by omega) (by omega)
      have hb1 := ediv_bound (n := h - f) (M := 2305843017803628544) h3 (by omega) (by omega) (by omega)
      have hb2 := ediv_bound (n := f - l) (M := 2305843017803628544) h3 (by omega) (by omega) (by omega)
      rw [if_pos h2, W3, floor_f h3 (by omega) (by omega) (by omega), floor_f h3 (by omega) (by omega) (by omega)]
      simp only [Option.bind_some]
      have q1 : ∀ t, t < -((h - f) / -d) ↔ h < f + t * d := fun t => by rw [lt_neg_ediv h3, Int.mul_neg]; omega
      have q2 : ∀ t, (f - l) / -d < t ↔ f + t * d < l := fun t => by rw [ediv_lt' h3, Int.mul_neg]; omega
      generalize (h - f) / -d = a at *
      generalize (f - l) / -d = b at *
      rw [w64 (by omega) (by omega)]
      exact ⟨_, _, _, rfl, ⟨fun g => by omega, fun _ => ⟨rfl, q1, q2⟩, fun g => by omega, fun _ => by omega⟩⟩
    · rw [if_neg h2]
      have h4 : d = 0 := by omega
      by_cases h5 : f < l
      · rw [if_pos h5]; exact ⟨_, _, _, rfl, ⟨fun g => by omega, fun g => by omega, fun _ => ⟨rfl, by omega⟩, fun g => by omega⟩⟩
      · rw [if_neg h5]
        by_cases h6 : f > h
        · rw [if_pos h6]; exact ⟨_, _, _, rfl, ⟨fun g => by omega, fun g => by omega, fun _ => ⟨rfl, by omega⟩, fun g => by omega⟩⟩
        · rw [if_neg h6]; exact ⟨_, _, _, rfl, ⟨fun g => by omega, fun g => by omega, fun _ => ⟨rfl, by omega⟩, fun g => by omega⟩⟩

/-- what is known when some coordinates have been looked at -/
structure Inv (S L R : Int → Prop) (nz : Prop) (lo hi : Int) (c : Bool) : Prop where
  yes : c = false → ∀ t, -4611686018427387904 ≤ t → t ≤ 4611686018427387904 → (S t ↔ lo ≤ t ∧ t ≤ hi)
  no : c = true → ∀ t, ¬ S t ∧ L t ∧ R t
  left : lo = -4611686018427387904 ∨ ∀ t, t < lo → L t
  right : hi = 4611686018427387904 ∨ ∀ t, hi < t → R t
  low : -4611686018427387904 ≤ lo ∧ lo ≤ 4611686018427387904
  high : hi ≤ 4611686018427387904 ∧ -4611686018427387904 ≤ hi
  nz : nz → -4611686018427387904 < lo ∧ hi < 4611686018427387904

theorem inv_start : Inv (fun _ => True) (fun _ => False) (fun _ => False) False (-4611686018427387904) 4611686018427387904 false :=
  ⟨fun _ t h0 h1 => ⟨fun _ => ⟨h0, h1⟩, fun _ => trivial⟩, fun h => (nomatch h), .inl rfl, .inl rfl, by omega, by omega, fun h => h.elim⟩

theorem mul_zero' {d : Int} (h : d = 0) (f t : Int) : f + t * d = f := by rw [h]; omega
theorem inv_step {S L R : Int → Prop} {nz : Prop} {lo hi : Int} {c : Bool} (I : Inv S L R nz lo hi c) {f d l h a b : Int} {all : Bool} (P : Par f d l h a b all) :
    Inv (fun t => S t ∧ In1 f d l h t) (fun t => L t ∨ LeftOut f d l h t) (fun t => R t ∨ RightOut f d l h t) (nz ∨ d ≠ 0) (within1 (lo, hi, c) (a, b, all)).1 (within1 (lo, hi, c) (a, b, all)).2.1 (within1 (lo, hi, c) (a, b, all)).2.2 := by
  rcases Int.lt_trichotomy d 0 with hd | hd | hd
  · obtain ⟨ha, q1, q2⟩ := P.neg hd
    have hb := P.bound (by omega)
    subst ha
    rw [within1_f (by simp)]
    dsimp only
    refine ⟨?_, ?_, ?_, ?_, ?_, ?_, ?_⟩
    · intro hc t h0 h1
      have e := I.yes hc t h0 h1
      have e1 := q1 t
      have e2 := q2 t
      unfold In1
      constructor
      · rintro ⟨g1, g2, g3⟩
        have := e.1 g1
        split <;> split <;> omega
      · intro g
        have g1 : lo ≤ t ∧ t ≤ hi ∧ a ≤ t ∧ t ≤ b := by split at g <;> split at g <;> omega
        exact ⟨e.2 ⟨g1.1, g1.2.1⟩, by omega, by omega⟩
    · intro hc t
      obtain ⟨g1, g2, g3⟩ := I.no hc t
      exact ⟨fun g => g1 g.1, .inl g2, .inl g3⟩
    · by_cases g : lo < a
      · rw [if_pos g]; exact .inr fun t ht => .inr (.inr ⟨by omega, (q1 t).1 ht⟩)
      · rw [if_neg g]
        rcases I.left with g1 | g1
        · exact .inl g1
        · exact .inr fun t ht => .inl (g1 t ht)
    · by_cases g : b < hi
      · rw [if_pos g]; exact .inr fun t ht => .inr (.inl ⟨by omega, (q2 t).1 ht⟩)
      · rw [if_neg g]
        rcases I.right with g1 | g1
        · exact .inl g1
        · exact .inr fun t ht => .inl (g1 t ht)
    · have := I.low; split <;> omega
    · have := I.high; split <;> omega
    · intro _; have := I.low; have := I.high; constructor <;> split <;> omega
  · obtain ⟨ha, hz⟩ := P.zero hd
    subst ha
    rcases hz with ⟨z1, z2, rfl, rfl⟩ | ⟨z1, rfl, rfl⟩
    · rw [within1_n rfl (by omega)]
      dsimp only
      have l1 := I.low
      have l2 := I.high
      rw [if_neg (by omega), if_neg (by omega)]
      refine ⟨?_, ?_, ?_, ?_, l1, l2, ?_⟩
      · intro hc t h0 h1
        unfold In1
        rw [mul_zero' hd]
        exact ⟨fun g => (I.yes hc t h0 h1).1 g.1, fun g => ⟨(I.yes hc t h0 h1).2 g, z1, z2⟩⟩
      · intro hc t
        obtain ⟨g1, g2, g3⟩ := I.no hc t
        exact ⟨fun g => g1 g.1, .inl g2, .inl g3⟩
      · rcases I.left with g1 | g1
        · exact .inl g1
        · exact .inr fun t ht => .inl (g1 t ht)
      · rcases I.right with g1 | g1
        · exact .inl g1
        · exact .inr fun t ht => .inl (g1 t ht)
      · rintro (g | g)
        · exact I.nz g
        · exact absurd hd g
    · rw [within1_t rfl (by omega)]
      dsimp only
      refine ⟨fun hc => (nomatch hc), ?_, ?_, ?_, I.low, I.high, ?_⟩
      · intro _ t
        have hl : LeftOut f d l h t := by unfold LeftOut; rw [mul_zero' hd]; omega
        have hr : RightOut f d l h t := by unfold RightOut; rw [mul_zero' hd]; omega
        exact ⟨fun g => by have := g.2; unfold In1 at this; rw [mul_zero' hd] at this; omega, .inr hl, .inr hr⟩
      · rcases I.left with g1 | g1
        · exact .inl g1
        · exact .inr fun t ht => .inl (g1 t ht)
      · rcases I.right with g1 | g1
        · exact .inl g1
        · exact .inr fun t ht => .inl (g1 t ht)
      · rintro (g | g)
        · exact I.nz g
        · exact absurd hd g
  · obtain ⟨ha, q1, q2⟩ := P.pos hd
    have hb := P.bound (by omega)
    subst ha
    rw [within1_f (by simp)]
    dsimp only
    refine ⟨?_, ?_, ?_, ?_, ?_, ?_, ?_⟩
    · intro hc t h0 h1
      have e := I.yes hc t h0 h1
      have e1 := q1 t
      have e2 := q2 t
      unfold In1
      constructor
      · rintro ⟨g1, g2, g3⟩
        have := e.1 g1
        split <;> split <;> omega
      · intro g
        have g1 : lo ≤ t ∧ t ≤ hi ∧ a ≤ t ∧ t ≤ b := by split at g <;> split at g <;> omega
        exact ⟨e.2 ⟨g1.1, g1.2.1⟩, by omega, by omega⟩
    · intro hc t
      obtain ⟨g1, g2, g3⟩ := I.no hc t
      exact ⟨fun g => g1 g.1, .inl g2, .inl g3⟩
    · by_cases g : lo < a
      · rw [if_pos g]; exact .inr fun t ht => .inr (.inl ⟨by omega, (q1 t).1 ht⟩)
      · rw [if_neg g]
        rcases I.left with g1 | g1
        · exact .inl g1
        · exact .inr fun t ht => .inl (g1 t ht)
    · by_cases g : b < hi
      · rw [if_pos g]; exact .inr fun t ht => .inr (.inr ⟨by omega, (q2 t).1 ht⟩)
      · rw [if_neg g]
        rcases I.right with g1 | g1
        · exact .inl g1
        · exact .inr fun t ht => .inl (g1 t ht)
    · have := I.low; split <;> omega
    · have := I.high; split <;> omega
    · intro _; have := I.low; have := I.high; constructor <;> split <;> omega
end Go.Proofs.Ytpfkhinbehegbaa.X

set_option linter.unusedVariables false
namespace Go.Proofs.Ytpfkhinbehegbaa.X
open Go.RowKit Go.Proofs.YtpfkhinbehegbaaW.PrintWords Go.Proofs.YtpfkhinbehegbaaW.PrintLast Go.Proofs.YtpfkhinbehegbaaW.PrintMore

def Sol (A B C xl xh yl yh sl sh x y : Int) : Prop := xl ≤ x ∧ x ≤ xh ∧ yl ≤ y ∧ y ≤ yh ∧ sl ≤ x + y ∧ x + y ≤ sh ∧ A * x + B * y = C
def InAll (xl xh yl yh sl sh X Y DX DY t : Int) : Prop := In1 X DX xl xh t ∧ In1 Y DY yl yh t ∧ In1 (X + Y) (DX + DY) sl sh t
def LeftAll (xl xh yl yh sl sh X Y DX DY t : Int) : Prop := LeftOut X DX xl xh t ∨ LeftOut Y DY yl yh t ∨ LeftOut (X + Y) (DX + DY) sl sh t
def RightAll (xl xh yl yh sl sh X Y DX DY t : Int) : Prop := RightOut X DX xl xh t ∨ RightOut Y DY yl yh t ∨ RightOut (X + Y) (DX + DY) sl sh t

theorem line_sum {A B C X Y DX DY : Int} (L : Line A B C X Y DX DY) : -2305843013508661248 ≤ X + Y ∧ X + Y ≤ 2305843013508661248 := by
  have h1 := L.xb
  have h2 := L.yb
  have h3 := L.dx
  by_cases h : DX = 0
  · have := L.up h; omega
  · have := L.across h; omega
theorem line_nz {A B C X Y DX DY : Int} (L : Line A B C X Y DX DY) : DX ≠ 0 ∨ DY ≠ 0 := by
  by_cases h : DX = 0
  · have := L.up h; omega
  · exact .inl h

theorem within_f {A B C xl xh yl yh sl sh X Y DX DY : Int} (hv : V A B C xl xh yl yh sl sh) (L : Line A B C X Y DX DY) :
    ∃ lo hi c, diophant_within.f A B C xl xh yl yh sl sh X Y DX DY = some (lo, hi, c) ∧ Inv (InAll xl xh yl yh sl sh X Y DX DY) (LeftAll xl xh yl yh sl sh X Y DX DY) (RightAll xl xh yl yh sl sh X Y DX DY) True lo hi c := by
  obtain ⟨hA, hB, h1, h2, h3, h4, h5, h6, h7, h8⟩ := hv
  have hs := line_sum L
  have hx := L.xb
  have hy := L.yb
  have hdx := L.dx
  have hdy := L.dy
  obtain ⟨a1, b1, c1, e1, P1⟩ := par_f (f := X) (d := DX) (l := xl) (h := xh) (by omega) (by omega) h1 h2
  obtain ⟨a2, b2, c2, e2, P2⟩ := par_f (f := Y) (d := DY) (l := yl) (h := yh) (by omega) (by omega) h3 h4
  obtain ⟨a3, b3, c3, e3, P3⟩ := par_f (f := X + Y) (d := DX + DY) (l := sl) (h := sh) (by omega) (by omega) h5 h6
  have I0 := inv_step (inv_step (inv_step inv_start P1) P2) P3
  obtain ⟨st, hst⟩ : ∃ st, st = within1 (within1 (within1 (-4611686018427387904, 4611686018427387904, false) (a1, b1, c1)) (a2, b2, c2)) (a3, b3, c3) := ⟨_, rfl⟩
  have I : Inv (fun t => ((True ∧ In1 X DX xl xh t) ∧ In1 Y DY yl yh t) ∧ In1 (X + Y) (DX + DY) sl sh t) (fun t => ((False ∨ LeftOut X DX xl xh t) ∨ LeftOut Y DY yl yh t) ∨ LeftOut (X + Y) (DX + DY) sl sh t)
      (fun t => ((False ∨ RightOut X DX xl xh t) ∨ RightOut Y DY yl yh t) ∨ RightOut (X + Y) (DX + DY) sl sh t) (((False ∨ DX ≠ 0) ∨ DY ≠ 0) ∨ DX + DY ≠ 0) st.1 st.2.1 st.2.2 := by rw [hst]; exact I0
  clear I0
  refine ⟨st.1, st.2.1, st.2.2, ?_, ?_⟩
  · unfold diophant_within.f
    rw [w64 (x := X + Y) (by omega) (by omega), w64 (x := DX + DY) (by omega) (by omega), e1, e2, e3, hst]
    rfl
  · have hz : ((False ∨ DX ≠ 0) ∨ DY ≠ 0) ∨ DX + DY ≠ 0 := by
      rcases line_nz L with h | h
      · exact .inl (.inl (.inr h))
      · exact .inl (.inr h)
    exact {
      yes := fun hc t h0 h1 => by
        have := I.yes hc t h0 h1
        unfold InAll
        constructor
        · rintro ⟨g1, g2, g3⟩; exact this.1 ⟨⟨⟨trivial, g1⟩, g2⟩, g3⟩
        · intro g; obtain ⟨⟨⟨_, g1⟩, g2⟩, g3⟩ := this.2 g; exact ⟨g1, g2, g3⟩
      no := fun hc t => by
        obtain ⟨g1, g2, g3⟩ := I.no hc t
        refine ⟨fun g => g1 ⟨⟨⟨trivial, g.1⟩, g.2.1⟩, g.2.2⟩, ?_, ?_⟩
        · rcases g2 with ((g | g) | g) | g
          · exact g.elim
          · exact .inl g
          · exact .inr (.inl g)
          · exact .inr (.inr g)
        · rcases g3 with ((g | g) | g) | g
          · exact g.elim
          · exact .inl g
          · exact .inr (.inl g)
          · exact .inr (.inr g)
      left := by
        rcases I.left with g | g
        · exact .inl g
        · refine .inr fun t ht => ?_
          rcases g t ht with ((g | g) | g) | g
          · exact g.elim
          · exact .inl g
          · exact .inr (.inl g)
          · exact .inr (.inr g)
      right := by
        rcases I.right with g | g
        · exact .inl g
        · refine .inr fun t ht => ?_
          rcases g t ht with ((g | g) | g) | g
          · exact g.elim
          · exact .inl g
          · exact .inr (.inl g)
          · exact .inr (.inr g)
      low := I.low
      high := I.high
      nz := fun _ => I.nz hz }

theorem tmod_dvd {A B C x y : Int} (h : A * x + B * y = C) : Int.tmod C (Int.gcd A B) = 0 := by
  have h1 := Int.gcd_dvd_left A B
  have h2 := Int.gcd_dvd_right A B
  have : (Int.gcd A B : Int) ∣ C := by
    rw [← h]; exact Int.dvd_add (Int.dvd_mul_of_dvd_left h1) (Int.dvd_mul_of_dvd_left h2)
  exact Int.tmod_eq_zero_of_dvd this

theorem abs_le_mul {t d : Int} (hd : d ≠ 0) : t.natAbs ≤ (t * d).natAbs := by
  rw [Int.natAbs_mul]; exact Nat.le_mul_of_pos_right _ (by omega)
/-- the solutions are those of the line, and their parameters are not great -/
theorem sol_line {A B C xl xh yl yh sl sh X Y DX DY x y : Int} (hv : V A B C xl xh yl yh sl sh) (L : Line A B C X Y DX DY) :
    Sol A B C xl xh yl yh sl sh x y ↔ ∃ t, -4611686018427387904 ≤ t ∧ t ≤ 4611686018427387904 ∧ InAll xl xh yl yh sl sh X Y DX DY t ∧ x = X + t * DX ∧ y = Y + t * DY := by
  obtain ⟨hA, hB, h1, h2, h3, h4, h5, h6, h7, h8⟩ := hv
  constructor
  · rintro ⟨g1, g2, g3, g4, g5, g6, g7⟩
    obtain ⟨t, ht1, ht2⟩ := L.full x y g7
    have hsum : X + Y + t * (DX + DY) = x + y := by rw [Int.mul_add]; omega
    refine ⟨t, ?_, ?_, ⟨⟨by omega, by omega⟩, ⟨by omega, by omega⟩, ⟨by omega, by omega⟩⟩, ht1, ht2⟩
    all_goals
      unfold C31 at h1 h2 h3 h4
      by_cases hz : DX = 0
      · obtain ⟨_, hY, hD, _⟩ := L.up hz
        rw [hD] at ht2
        omega
      · have := abs_le_mul (t := t) hz
        have := L.across hz
        have := L.dx
        omega
  · rintro ⟨t, _, _, ⟨⟨g1, g2⟩, ⟨g3, g4⟩, ⟨g5, g6⟩⟩, rfl, rfl⟩
    rw [Int.mul_add] at g5 g6
    refine ⟨by omega, by omega, by omega, by omega, by omega, by omega, ?_⟩
    have e1 := L.on
    have e2 := L.dir
    have : A * (X + t * DX) + B * (Y + t * DY) = (A * X + B * Y) + t * (A * DX + B * DY) := by grind
    rw [this, e1, e2]; omega

def Void (xl xh yl yh sl sh : Int) : Prop := xl > xh ∨ yl > yh ∨ max (xl + yl) sl > min (xh + yh) sh
instance (xl xh yl yh sl sh : Int) : Decidable (Void xl xh yl yh sl sh) := by unfold Void; infer_instance
theorem void_f {A B C xl xh yl yh sl sh : Int} (hv : V A B C xl xh yl yh sl sh) : diophant_void.f A B C xl xh yl yh sl sh = some (decide (Void xl xh yl yh sl sh)) := by
  obtain ⟨hA, hB, h1, h2, h3, h4, h5, h6, h7, h8⟩ := hv
  unfold C31 at *
  unfold diophant_void.f Void
  rw [mx_def, mn_def, w64 (by omega) (by omega), w64 (by omega) (by omega)]
  by_cases g1 : xl > xh
  · rw [if_pos g1]; simp [g1]
  · rw [if_neg g1]
    by_cases g2 : yl > yh
    · rw [if_pos g2]; simp [g2]
    · rw [if_neg g2]; simp [g1, g2]
theorem void_none {A B C xl xh yl yh sl sh : Int} (h : Void xl xh yl yh sl sh) (x y : Int) : ¬ Sol A B C xl xh yl yh sl sh x y := by
  unfold Void at h; rintro ⟨g1, g2, g3, g4, g5, g6, g7⟩; omega

/-- the solution with the least y, then the least x -/
def Least (A B C xl xh yl yh sl sh x y : Int) : Prop := Sol A B C xl xh yl yh sl sh x y ∧ ∀ x' y', Sol A B C xl xh yl yh sl sh x' y' → y < y' ∨ (y = y' ∧ x ≤ x')

theorem solve_f {A B C xl xh yl yh sl sh : Int} {k : Nat} (hk : 2147483670 ≤ k) (hv : V A B C xl xh yl yh sl sh) :
    (∃ x y, diophant_Solve.f k A B C xl xh yl yh sl sh = some (x, y, true) ∧ Least A B C xl xh yl yh sl sh x y) ∨
    (diophant_Solve.f k A B C xl xh yl yh sl sh = some (0, 0, false) ∧ ∀ x y, ¬ Sol A B C xl xh yl yh sl sh x y) := by
  obtain ⟨k, rfl⟩ : ∃ m, k = m + 3 := ⟨k - 3, by omega⟩
  have hb := hv
  obtain ⟨hA, hB, h1, h2, h3, h4, h5, h6, h7, h8⟩ := hb
  unfold diophant_Solve.f
  rw [valid_f (by omega), Option.bind_some, if_pos (by simpa using hv), void_f hv, Option.bind_some]
  simp only [diophant_Solve.j0]
  by_cases hvd : Void xl xh yl yh sl sh
  · rw [if_pos (by simpa using hvd)]
    exact .inr ⟨rfl, void_none hvd⟩
  rw [if_neg (by simpa using hvd)]
  by_cases h0 : A = 0 ∧ B = 0
  · obtain ⟨rfl, rfl⟩ := h0
    rw [if_pos rfl, show ((0 : Int) == 0) = true from rfl]
    simp only [diophant_Solve.j1]
    rw [if_pos trivial]
    by_cases hC : C = 0
    · rw [if_pos hC]
      unfold C31 at *
      unfold Void at hvd
      rw [mx_def, w64 (x := sl - xh) (by omega) (by omega), mx_def, w64 (by omega) (by omega)]
      refine .inl ⟨_, _, rfl, ⟨by omega, by omega, by omega, by omega, by omega, by omega, by omega⟩, ?_⟩
      rintro x' y' ⟨g1, g2, g3, g4, g5, g6, g7⟩
      omega
    · rw [if_neg hC]
      exact .inr ⟨rfl, fun x y h => hC (by have := h.2.2.2.2.2.2; omega)⟩
  · have hj : (if A = 0 then diophant_Solve.j1 (k + 2) (B == 0) A B C xl xh yl yh sl sh else diophant_Solve.j1 (k + 2) false A B C xl xh yl yh sl sh) = diophant_Solve.j1 (k + 2) false A B C xl xh yl yh sl sh := by
      by_cases hz : A = 0
      · rw [if_pos hz, show (B == 0) = false from beq_eq_false_iff_ne.2 (fun h => h0 ⟨hz, h⟩)]
      · rw [if_neg hz]
    rw [hj]
    simp only [diophant_Solve.j1]
    rw [if_neg (by simp)]
    rcases all_f (k := k + 1) (by omega) hv h0 with ⟨hm, hall⟩ | ⟨hm, X, Y, DX, DY, hall, L⟩
    · rw [hall, Option.bind_some]
      dsimp only
      rw [if_neg (by simp)]
      exact .inr ⟨rfl, fun x y h => hm (tmod_dvd h.2.2.2.2.2.2)⟩
    · rw [hall, Option.bind_some]
      dsimp only
      rw [if_pos rfl]
      obtain ⟨lo, hi, c, hw, I⟩ := within_f hv L
      rw [hw, Option.bind_some]
      dsimp only
      have hj2 : (if c = true then diophant_Solve.j2 (k + 1) lo hi true X Y DX DY else diophant_Solve.j2 (k + 1) lo hi (decide (lo > hi)) X Y DX DY) = diophant_Solve.j2 (k + 1) lo hi (c || decide (lo > hi)) X Y DX DY := by
        cases c <;> simp
      rw [hj2]
      simp only [diophant_Solve.j2]
      by_cases hc : (c || decide (lo > hi)) = true
      · rw [if_pos hc]
        refine .inr ⟨rfl, fun x y h => ?_⟩
        obtain ⟨t, t0, t1, hin, _, _⟩ := (sol_line hv L).1 h
        cases c with
        | true => exact (I.no rfl t).1 hin
        | false =>
          have := (I.yes rfl t t0 t1).1 hin
          simp at hc
          omega
      · rw [if_neg hc]
        have hcf : c = false := by cases c <;> simp_all
        have hlh : lo ≤ hi := by subst hcf; simp at hc; omega
        have hlow := I.low
        have hhigh := I.high
        have key : ∀ t, lo ≤ t → t ≤ hi → Sol A B C xl xh yl yh sl sh (X + t * DX) (Y + t * DY) := fun t ht0 ht1 =>
          (sol_line hv L).2 ⟨t, by omega, by omega, (I.yes hcf t (by omega) (by omega)).2 ⟨ht0, ht1⟩, rfl, rfl⟩
        have wr : ∀ t, lo ≤ t → t ≤ hi → wrap64 (X + wrap64 (t * DX)) = X + t * DX ∧ wrap64 (Y + wrap64 (t * DY)) = Y + t * DY := fun t ht0 ht1 => by
          have hs := key t ht0 ht1
          have hx := L.xb
          have hy := L.yb
          obtain ⟨g1, g2, g3, g4, -, -, -⟩ := hs
          unfold C31 at *
          rw [w64 (x := t * DX) (by omega) (by omega), w64 (x := t * DY) (by omega) (by omega)]
          exact ⟨w64 (by omega) (by omega), w64 (by omega) (by omega)⟩
        have par : ∀ x' y', Sol A B C xl xh yl yh sl sh x' y' → ∃ t, lo ≤ t ∧ t ≤ hi ∧ x' = X + t * DX ∧ y' = Y + t * DY := fun x' y' h => by
          obtain ⟨t, t0, t1, hin, e1, e2⟩ := (sol_line hv L).1 h
          have := (I.yes hcf t t0 t1).1 hin
          exact ⟨t, this.1, this.2, e1, e2⟩
        left
        by_cases hneg : DY < 0
        · rw [if_pos hneg, (wr hi hlh (Int.le_refl _)).1, (wr hi hlh (Int.le_refl _)).2]
          refine ⟨_, _, rfl, key hi hlh (Int.le_refl _), fun x' y' h => ?_⟩
          obtain ⟨t, t0, t1, rfl, rfl⟩ := par x' y' h
          rcases Int.lt_or_eq_of_le t1 with h | rfl
          · left
            have := Int.mul_lt_mul_of_neg_right h hneg
            omega
          · right; omega
        · rw [if_neg hneg, (wr lo (Int.le_refl _) hlh).1, (wr lo (Int.le_refl _) hlh).2]
          refine ⟨_, _, rfl, key lo (Int.le_refl _) hlh, fun x' y' h => ?_⟩
          obtain ⟨t, t0, t1, rfl, rfl⟩ := par x' y' h
          rcases Int.lt_or_eq_of_le t0 with h | rfl
          · rcases Int.lt_or_eq_of_le (show 0 ≤ DY by omega) with hp | hz
            · left
              have := Int.mul_lt_mul_of_pos_right h hp
              omega
            · right
              rw [← hz, Int.mul_zero, Int.mul_zero]
              have hdx := L.dx
              have := Int.mul_le_mul_of_nonneg_right t0 hdx.1
              omega
          · right; omega
end Go.Proofs.Ytpfkhinbehegbaa.X
