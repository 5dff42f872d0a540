/- Plain mathematics for layer 24: the parameters of a line within the ranges. -/
import Derived.Test.YtpfkhinbehegbaaM3
import Derived.Test.YtpfkhinbehegbaaXx11
import Derived.Test.YtpfkhinbehegbaaXx12
import Derived.Test.YtpfkhinbehegbaaXx13
set_option linter.unusedVariables false
namespace Go.Proofs.Ytpfkhinbehegbaa.X
open Go.RowKit Go.Proofs.YtpfkhinbehegbaaW.PrintWords Go.Proofs.YtpfkhinbehegbaaW.PrintLast Go.Proofs.YtpfkhinbehegbaaW.PrintMore

def In1 (f d l h t : Int) : Prop := l ≤ f + t * d ∧ f + t * d ≤ h
def LeftOut (f d l h t : Int) : Prop := (0 ≤ d ∧ f + t * d < l) ∨ (d ≤ 0 ∧ h < f + t * d)
def RightOut (f d l h t : Int) : Prop := (d ≤ 0 ∧ f + t * d < l) ∨ (0 ≤ d ∧ h < f + t * d)
structure Par (f d l h lo hi : Int) (all : Bool) : Prop where
  pos : 0 < d → all = false ∧ (∀ t, t < lo ↔ f + t * d < l) ∧ (∀ t, hi < t ↔ h < f + t * d)
  neg : d < 0 → all = false ∧ (∀ t, t < lo ↔ h < f + t * d) ∧ (∀ t, hi < t ↔ f + t * d < l)
  zero : d = 0 → all = true ∧ ((l ≤ f ∧ f ≤ h ∧ lo = -4611686018427387904 ∧ hi = 4611686018427387904) ∨ (¬ (l ≤ f ∧ f ≤ h) ∧ lo = 0 ∧ hi = -1))
  bound : d ≠ 0 → -4611686018427387904 < lo ∧ lo < 4611686018427387904 ∧ -4611686018427387904 < hi ∧ hi < 4611686018427387904

theorem ediv_bound {n d M : Int} (hd : 0 < d) (h0 : -M ≤ n) (h1 : n ≤ M) (hM : 0 ≤ M) : -M ≤ n / d ∧ n / d ≤ M := by
  constructor
  · apply Int.le_ediv_of_mul_le hd
    have : M * 1 ≤ M * d := Int.mul_le_mul_of_nonneg_left (by omega) hM
    rw [Int.neg_mul]; omega
  · refine Int.le_of_lt_add_one (Int.ediv_lt_of_lt_mul hd ?_)
    have : M * 1 ≤ M * d := Int.mul_le_mul_of_nonneg_left (by omega) hM
    rw [Int.add_mul]; omega
theorem lt_neg_ediv {n d t : Int} (hd : 0 < d) : t < -(n / d) ↔ n + t * d < 0 := by
  rw [show t < -(n / d) ↔ n / d < -t by omega, Int.ediv_lt_iff_lt_mul hd, Int.neg_mul]; omega
theorem ediv_lt' {n d t : Int} (hd : 0 < d) : n / d < t ↔ n < t * d := Int.ediv_lt_iff_lt_mul hd

theorem par_f {f d l h : Int} (hf : -2305843015656144896 ≤ f ∧ f ≤ 2305843015656144896) (hd : -4294967296 ≤ d ∧ d ≤ 4294967296) (hl : C31 l) (hh : C31 h) :
    ∃ lo hi all, diophant_coordinate_parameters.f f d l h = some (lo, hi, all) ∧ Par f d l h lo hi all := by
  unfold C31 at hl hh
  unfold diophant_coordinate_parameters.f
  have W1 : wrap64 (f - l) = f - l := w64 (by omega) (by omega)
  have W2 : wrap64 (h - f) = h - f := w64 (by omega) (by omega)
  rw [W1, W2]
  by_cases h1 : d > 0
  · have hb1 := ediv_bound (n := f - l) (M := 2305843017803628544) h1 (by omega) (by omega) (by omega)
    have hb2 := ediv_bound (n := h - f) (M := 2305843017803628544) h1 (by omega) (by omega) (by omega)
    rw [if_pos h1, floor_f h1 (by omega) (by omega) (by omega), floor_f h1 (by omega) (by omega) (by omega)]
    simp only [Option.bind_some]
    have q1 : ∀ t, t < -((f - l) / d) ↔ f + t * d < l := fun t => by rw [lt_neg_ediv h1]; omega
    have q2 : ∀ t, (h - f) / d < t ↔ h < f + t * d := fun t => by rw [ediv_lt' h1]; omega
    generalize (f - l) / d = a at *
    generalize (h - f) / d = b at *
    rw [w64 (by omega) (by omega)]
    exact ⟨_, _, _, rfl, ⟨fun _ => ⟨rfl, q1, q2⟩, fun g => by omega, fun g => by omega, fun _ => by omega⟩⟩
  · rw [if_neg h1]
    by_cases h2 : d < 0
    · have h3 : 0 < -d := by omega
      have W3 : wrap64 (-d) = -d := w64 (by omega) (by omega)
      have hb1 := ediv_bound (n := h - f) (M := 2305843017803628544) h3 (by omega) (by omega) (by omega)
      have hb2 := ediv_bound (n := f - l) (M := 2305843017803628544) h3 (by omega) (by omega) (by omega)
      rw [if_pos h2, W3, floor_f h3 (by omega) (by omega) (by omega), floor_f h3 (by omega) (by omega) (by omega)]
      simp only [Option.bind_some]
      have q1 : ∀ t, t < -((h - f) / -d) ↔ h < f + t * d := fun t => by rw [lt_neg_ediv h3, Int.mul_neg]; omega
      have q2 : ∀ t, (f - l) / -d < t ↔ f + t * d < l := fun t => by rw [ediv_lt' h3, Int.mul_neg]; omega
      generalize (h - f) / -d = a at *
      generalize (f - l) / -d = b at *
      rw [w64 (by omega) (by omega)]
      exact ⟨_, _, _, rfl, ⟨fun g => by omega, fun _ => ⟨rfl, q1, q2⟩, fun g => by omega, fun _ => by omega⟩⟩
    · rw [if_neg h2]
      have h4 : d = 0 := by omega
      by_cases h5 : f < l
      · rw [if_pos h5]; exact ⟨_, _, _, rfl, ⟨fun g => by omega, fun g => by omega, fun _ => ⟨rfl, by omega⟩, fun g => by omega⟩⟩
      · rw [if_neg h5]
        by_cases h6 : f > h
        · rw [if_pos h6]; exact ⟨_, _, _, rfl, ⟨fun g => by omega, fun g => by omega, fun _ => ⟨rfl, by omega⟩, fun g => by omega⟩⟩
        · rw [if_neg h6]; exact ⟨_, _, _, rfl, ⟨fun g => by omega, fun g => by omega, fun _ => ⟨rfl, by omega⟩, fun g => by omega⟩⟩

/-- what is known when some coordinates have been looked at -/
structure Inv (S L R : Int → Prop) (nz : Prop) (lo hi : Int) (c : Bool) : Prop where
  yes : c = false → ∀ t, -4611686018427387904 ≤ t → t ≤ 4611686018427387904 → (S t ↔ lo ≤ t ∧ t ≤ hi)
  no : c = true → ∀ t, ¬ S t ∧ L t ∧ R t
  left : lo = -4611686018427387904 ∨ ∀ t, t < lo → L t
  right : hi = 4611686018427387904 ∨ ∀ t, hi < t → R t
  low : -4611686018427387904 ≤ lo ∧ lo ≤ 4611686018427387904
  high : hi ≤ 4611686018427387904 ∧ -4611686018427387904 ≤ hi
  nz : nz → -4611686018427387904 < lo ∧ hi < 4611686018427387904

theorem inv_start : Inv (fun _ => True) (fun _ => False) (fun _ => False) False (-4611686018427387904) 4611686018427387904 false :=
  ⟨fun _ t h0 h1 => ⟨fun _ => ⟨h0, h1⟩, fun _ => trivial⟩, fun h => (nomatch h), .inl rfl, .inl rfl, by omega, by omega, fun h => h.elim⟩

theorem mul_zero' {d : Int} (h : d = 0) (f t : Int) : f + t * d = f := by rw [h]; omega
theorem inv_step {S L R : Int → Prop} {nz : Prop} {lo hi : Int} {c : Bool} (I : Inv S L R nz lo hi c) {f d l h a b : Int} {all : Bool} (P : Par f d l h a b all) :
    Inv (fun t => S t ∧ In1 f d l h t) (fun t => L t ∨ LeftOut f d l h t) (fun t => R t ∨ RightOut f d l h t) (nz ∨ d ≠ 0) (within1 (lo, hi, c) (a, b, all)).1 (within1 (lo, hi, c) (a, b, all)).2.1 (within1 (lo, hi, c) (a, b, all)).2.2 := by
  rcases Int.lt_trichotomy d 0 with hd | hd | hd
  · obtain ⟨ha, q1, q2⟩ := P.neg hd
    have hb := P.bound (by omega)
    subst ha
    rw [within1_f (by simp)]
    dsimp only
    refine ⟨?_, ?_, ?_, ?_, ?_, ?_, ?_⟩
    · intro hc t h0 h1
      have e := I.yes hc t h0 h1
      have e1 := q1 t
      have e2 := q2 t
      unfold In1
      constructor
      · rintro ⟨g1, g2, g3⟩
        have := e.1 g1
        split <;> split <;> omega
      · intro g
        have g1 : lo ≤ t ∧ t ≤ hi ∧ a ≤ t ∧ t ≤ b := by split at g <;> split at g <;> omega
        exact ⟨e.2 ⟨g1.1, g1.2.1⟩, by omega, by omega⟩
    · intro hc t
      obtain ⟨g1, g2, g3⟩ := I.no hc t
      exact ⟨fun g => g1 g.1, .inl g2, .inl g3⟩
    · by_cases g : lo < a
      · rw [if_pos g]; exact .inr fun t ht => .inr (.inr ⟨by omega, (q1 t).1 ht⟩)
      · rw [if_neg g]
        rcases I.left with g1 | g1
        · exact .inl g1
        · exact .inr fun t ht => .inl (g1 t ht)
    · by_cases g : b < hi
      · rw [if_pos g]; exact .inr fun t ht => .inr (.inl ⟨by omega, (q2 t).1 ht⟩)
      · rw [if_neg g]
        rcases I.right with g1 | g1
        · exact .inl g1
        · exact .inr fun t ht => .inl (g1 t ht)
    · have := I.low; split <;> omega
    · have := I.high; split <;> omega
    · intro _; have := I.low; have := I.high; constructor <;> split <;> omega
  · obtain ⟨ha, hz⟩ := P.zero hd
    subst ha
    rcases hz with ⟨z1, z2, rfl, rfl⟩ | ⟨z1, rfl, rfl⟩
    · rw [within1_n rfl (by omega)]
      dsimp only
      have l1 := I.low
      have l2 := I.high
      rw [if_neg (by omega), if_neg (by omega)]
      refine ⟨?_, ?_, ?_, ?_, l1, l2, ?_⟩
      · intro hc t h0 h1
        unfold In1
        rw [mul_zero' hd]
        exact ⟨fun g => (I.yes hc t h0 h1).1 g.1, fun g => ⟨(I.yes hc t h0 h1).2 g, z1, z2⟩⟩
      · intro hc t
        obtain ⟨g1, g2, g3⟩ := I.no hc t
        exact ⟨fun g => g1 g.1, .inl g2, .inl g3⟩
      · rcases I.left with g1 | g1
        · exact .inl g1
        · exact .inr fun t ht => .inl (g1 t ht)
      · rcases I.right with g1 | g1
        · exact .inl g1
        · exact .inr fun t ht => .inl (g1 t ht)
      · rintro (g | g)
        · exact I.nz g
        · exact absurd hd g
    · rw [within1_t rfl (by omega)]
      dsimp only
      refine ⟨fun hc => (nomatch hc), ?_, ?_, ?_, I.low, I.high, ?_⟩
      · intro _ t
        have hl : LeftOut f d l h t := by unfold LeftOut; rw [mul_zero' hd]; omega
        have hr : RightOut f d l h t := by unfold RightOut; rw [mul_zero' hd]; omega
        exact ⟨fun g => by have := g.2; unfold In1 at this; rw [mul_zero' hd] at this; omega, .inr hl, .inr hr⟩
      · rcases I.left with g1 | g1
        · exact .inl g1
        · exact .inr fun t ht => .inl (g1 t ht)
      · rcases I.right with g1 | g1
        · exact .inl g1
        · exact .inr fun t ht => .inl (g1 t ht)
      · rintro (g | g)
        · exact I.nz g
        · exact absurd hd g
  · obtain ⟨ha, q1, q2⟩ := P.pos hd
    have hb := P.bound (by omega)
    subst ha
    rw [within1_f (by simp)]
    dsimp only
    refine ⟨?_, ?_, ?_, ?_, ?_, ?_, ?_⟩
    · intro hc t h0 h1
      have e := I.yes hc t h0 h1
      have e1 := q1 t
      have e2 := q2 t
      unfold In1
      constructor
      · rintro ⟨g1, g2, g3⟩
        have := e.1 g1
        split <;> split <;> omega
      · intro g
        have g1 : lo ≤ t ∧ t ≤ hi ∧ a ≤ t ∧ t ≤ b := by split at g <;> split at g <;> omega
        exact ⟨e.2 ⟨g1.1, g1.2.1⟩, by omega, by omega⟩
    · intro hc t
      obtain ⟨g1, g2, g3⟩ := I.no hc t
      exact ⟨fun g => g1 g.1, .inl g2, .inl g3⟩
    · by_cases g : lo < a
      · rw [if_pos g]; exact .inr fun t ht => .inr (.inl ⟨by omega, (q1 t).1 ht⟩)
      · rw [if_neg g]
        rcases I.left with g1 | g1
        · exact .inl g1
        · exact .inr fun t ht => .inl (g1 t ht)
    · by_cases g : b < hi
      · rw [if_pos g]; exact .inr fun t ht => .inr (.inr ⟨by omega, (q2 t).1 ht⟩)
      · rw [if_neg g]
        rcases I.right with g1 | g1
        · exact .inl g1
        · exact .inr fun t ht => .inl (g1 t ht)
    · have := I.low; split <;> omega
    · have := I.high; split <;> omega
    · intro _; have := I.low; have := I.high; constructor <;> split <;> omega
end Go.Proofs.Ytpfkhinbehegbaa.X
