/- Proved: for ranges of any size, Check accepts exactly the certificates whose condition holds by the reference. No condition beside the law's own guard. -/
import Derived.Test.YtpfkhinbehegbaaSayDiophantChecks
import Derived.Test.YtpfkhinbehegbaaM7
import Derived.Test.YtpfkhinbehegbaaXx34
import Derived.Test.YtpfkhinbehegbaaXx35
import Derived.Test.YtpfkhinbehegbaaXx36
set_option linter.unusedVariables false
namespace Go.Proofs.Ytpfkhinbehegbaa.Pure
open Go.RowKit Go.Proofs.YtpfkhinbehegbaaW.PrintWords Go.Proofs.Ytpfkhinbehegbaa.X

theorem gcd_zero_iff {A B : Int} : (Int.gcd A B : Int) = 0 ↔ A = 0 ∧ B = 0 := by
  rw [← Int.gcd_eq_zero_iff]; omega
theorem rleft_f (n d l h : Int) : jacquardref24_left.f n d l h = some (decide ((0 ≤ d ∧ n < l) ∨ (d ≤ 0 ∧ h < n))) := by
  unfold jacquardref24_left.f
  by_cases h1 : d ≥ 0
  · rw [if_pos h1]
    by_cases h2 : n < l
    · rw [if_pos h2]; congr 1; symm; exact decide_eq_true (by omega)
    · rw [if_neg h2]
      by_cases h3 : d ≤ 0
      · rw [if_pos h3]; congr 1; exact decide_eq_decide.2 (by omega)
      · rw [if_neg h3]; congr 1; symm; exact decide_eq_false (by omega)
  · rw [if_neg h1, if_pos (by omega)]; congr 1; exact decide_eq_decide.2 (by omega)
theorem rat_f {f d t : Int} {k : Nat} (hf : -2305843015656144896 ≤ f ∧ f ≤ 2305843015656144896) (hd : -4294967296 ≤ d ∧ d ≤ 4294967296) (ht : -4611686018427387905 ≤ t ∧ t ≤ 4611686018427387905) :
    jacquardref24_At.f (k + 1) f d t = some (Clip f d t) := by
  have hj : jacquardref24_At.f (k + 1) f d t = jacquardref24_At.j0 (k + 1) f d t 4611686018427387904 (decide (d = 0 ∨ t = 0)) := by
    unfold jacquardref24_At.f
    by_cases h : d = 0
    · rw [if_pos h]; simp [h]
    · rw [if_neg h]; congr 1; by_cases g : t = 0 <;> simp [h, g]
  rw [hj]
  simp only [jacquardref24_At.j0]
  unfold Clip
  by_cases h0 : d = 0 ∨ t = 0
  · have : t * d = 0 := by rcases h0 with h | h <;> rw [h] <;> omega
    rw [if_pos (by simpa using h0), this, if_pos (by decide)]; congr 1; omega
  · rw [if_neg (by simpa using h0), rabs_f (by omega) (by omega), Option.bind_some, rabs_f (by omega) (by omega), Option.bind_some, if_neg (by omega)]
    have hq : Int.tdiv 4611686018427387904 (d.natAbs : Int) = ((4611686018427387904 / d.natAbs : Nat) : Int) := rfl
    have hql : 4611686018427387904 / d.natAbs ≤ 4611686018427387904 := Nat.div_le_self _ _
    have hiff : (4611686018427387904 / d.natAbs < t.natAbs) ↔ 4611686018427387904 < (t * d).natAbs := by
      rw [Int.natAbs_mul, Nat.div_lt_iff_lt_mul (by omega)]
    rw [hq]
    generalize 4611686018427387904 / d.natAbs = q at *
    rw [w64 (x := ((q : Nat) : Int)) (by omega) (by omega)]
    by_cases h : (t * d).natAbs ≤ 4611686018427387904
    · rw [if_neg (by omega), if_pos h, w64 (x := t * d) (by omega) (by omega), w64 (by omega) (by omega)]
    · rw [if_pos (by omega), if_neg h, w64 (x := -4611686018427387904) (by omega) (by omega)]
      by_cases h1 : decide (t > 0) = decide (d > 0)
      · rw [if_pos h1, if_pos (by rw [h1]; simp)]
      · rw [if_neg h1, if_neg (by simpa using h1)]
theorem rlo {f d l h t : Int} {k : Nat} (hf : -2305843015656144896 ≤ f ∧ f ≤ 2305843015656144896) (hl : C31 l) (hh : C31 h) : decide ((0 ≤ d ∧ Clip f d t < l) ∨ (d ≤ 0 ∧ h < Clip f d t)) = decide (LeftOut f d l h t) := by
  have c1 := (clip_lt (d := d) (t := t) hf hl).1
  have c2 := (clip_lt (d := d) (t := t) hf hh).2
  exact decide_eq_decide.2 (by unfold LeftOut; rw [c1, c2])
theorem rro {f d l h t : Int} {k : Nat} (hf : -2305843015656144896 ≤ f ∧ f ≤ 2305843015656144896) (hl : C31 l) (hh : C31 h) : decide ((0 ≤ -d ∧ Clip f d t < l) ∨ (-d ≤ 0 ∧ h < Clip f d t)) = decide (RightOut f d l h t) := by
  have c1 := (clip_lt (d := d) (t := t) hf hl).1
  have c2 := (clip_lt (d := d) (t := t) hf hh).2
  refine decide_eq_decide.2 ?_
  unfold RightOut
  rw [c1, c2]
  omega
theorem ends_f {A B C xl xh yl yh sl sh X Y DX DY t : Int} {k : Nat} (hv : V A B C xl xh yl yh sl sh) (L : Line A B C X Y DX DY) (ht : -4611686018427387904 ≤ t ∧ t ≤ 4611686018427387904) :
    jacquardref24_Ends.f (k + 2) A B C xl xh yl yh sl sh X Y DX DY t = some (decide (LeftAll xl xh yl yh sl sh X Y DX DY t ∧ RightAll xl xh yl yh sl sh X Y DX DY (t + 1))) := by
  have hv' := hv
  obtain ⟨hA, hB, h1, h2, h3, h4, h5, h6, h7, h8⟩ := hv'
  have hs := line_sum L
  have hx := L.xb
  have hy := L.yb
  have hdx := L.dx
  have hdy := L.dy
  have W1 : wrap64 (X + Y) = X + Y := w64 (by omega) (by omega)
  have W2 : wrap64 (DX + DY) = DX + DY := w64 (by omega) (by omega)
  have W3 : wrap64 (t + 1) = t + 1 := w64 (by omega) (by omega)
  have W4 : wrap64 (-DX) = -DX := w64 (by omega) (by omega)
  have W5 : wrap64 (-DY) = -DY := w64 (by omega) (by omega)
  have W6 : wrap64 (-DX - DY) = -(DX + DY) := by rw [w64 (by omega) (by omega)]; omega
  have hR : ∀ b, jacquardref24_Ends.j0 (k + 2) X Y DX DY t b A B C xl xh yl yh sl sh = some (b && decide (RightAll xl xh yl yh sl sh X Y DX DY (t + 1))) := by
    intro b
    simp only [jacquardref24_Ends.j0]
    cases b with
    | false => rw [if_neg (by simp)]; rfl
    | true =>
      rw [if_pos rfl, W1, W2, W3, W4, W5, W6, rat_f (by omega) (by omega) (by omega), Option.bind_some, rleft_f, Option.bind_some, rro (k := 0) (by omega) h1 h2]
      unfold RightAll
      by_cases g1 : RightOut X DX xl xh (t + 1)
      · rw [if_pos (by simpa using g1)]; simp [g1]
      · rw [if_neg (by simpa using g1), rat_f (by omega) (by omega) (by omega), Option.bind_some, rleft_f, Option.bind_some, rro (k := 0) (by omega) h3 h4]
        by_cases g2 : RightOut Y DY yl yh (t + 1)
        · rw [if_pos (by simpa using g2)]; simp [g2]
        · rw [if_neg (by simpa using g2), rat_f (by omega) (by omega) (by omega), Option.bind_some, rleft_f, Option.bind_some, rro (k := 0) (by omega) h5 h6]
          simp [g1, g2]
  unfold jacquardref24_Ends.f
  rw [W1, W2, rat_f (by omega) (by omega) (by omega), Option.bind_some, rleft_f, Option.bind_some, rlo (k := 0) (by omega) h1 h2, hR]
  unfold LeftAll
  by_cases g1 : LeftOut X DX xl xh t
  · rw [if_pos (by simpa using g1)]; simp [g1]
  · rw [if_neg (by simpa using g1), rat_f (by omega) (by omega) (by omega), Option.bind_some, rleft_f, Option.bind_some, rlo (k := 0) (by omega) h3 h4]
    by_cases g2 : LeftOut Y DY yl yh t
    · rw [if_pos (by simpa using g2)]; simp [g2]
    · rw [if_neg (by simpa using g2), rat_f (by omega) (by omega) (by omega), Option.bind_some, rleft_f, Option.bind_some, rlo (k := 0) (by omega) h5 h6, hR]
      simp [g1, g2]

theorem DiophantChecks : Say.DiophantChecks := by
  intro A B C xl xh yl yh sl sh kind T _ _ _ _ _ _ _ _ _ _ _
  refine ⟨2147483700, ?_⟩
  unfold jacquardlaw24_DiophantChecks.f
  rw [awake_f (by omega), Option.bind_some, if_pos rfl, rvalid_f, Option.bind_some]
  simp only [jacquardlaw24_DiophantChecks.j0]
  by_cases hv : V A B C xl xh yl yh sl sh
  · rw [if_neg (by simp [hv])]
    have hA : C31 A := hv.1
    have hB : C31 B := hv.2.1
    unfold C31 at hA hB
    obtain ⟨b, hc, hb⟩ := check_f (k := 2147483699) (kind := kind) (T := T) (by omega) hv
    rw [rgcd_f _ (by omega) (by omega) (by omega), Option.bind_some]
    have hall : ∃ l : Int × Int × Int × Int × Bool, diophant_All.f 2147483660 A B C xl xh yl yh sl sh = some l ∧ (l.2.2.2.2 = true ↔ ¬ (A = 0 ∧ B = 0) ∧ Int.tmod C (Int.gcd A B) = 0) ∧ (l.2.2.2.2 = true → Line A B C l.1 l.2.1 l.2.2.1 l.2.2.2.1) := by
      by_cases h0 : A = 0 ∧ B = 0
      · exact ⟨_, all_none (by omega) (.inr h0), by simp [h0], by simp⟩
      · rcases all_f (k := 2147483660) (by omega) hv h0 with ⟨hm, ha⟩ | ⟨hm, X, Y, DX, DY, ha, L⟩
        · exact ⟨_, ha, by simp [hm], by simp⟩
        · exact ⟨_, ha, by simp only [true_iff]; exact ⟨h0, hm⟩, fun _ => L⟩
    obtain ⟨⟨X, Y, DX, DY, ok⟩, ha, hok, hL⟩ := hall
    rw [all_more (by omega) ha, Option.bind_some]
    dsimp only at *
    rw [hc]
    simp only [Option.bind_some]
    unfold Go.Proofs.Ytpfkhinbehegbaa.X.Good at hb
    by_cases k1 : kind = 1
    · subst k1
      rw [if_pos rfl, rempty_f hv, Option.bind_some]
      have : b = decide (Void xl xh yl yh sl sh) := by rw [Bool.eq_iff_iff, hb]; simp
      rw [this]; simp
    rw [if_neg k1]
    by_cases k2 : kind = 2
    · subst k2
      rw [if_pos rfl]
      by_cases hz : A = 0 ∧ B = 0
      · rw [if_pos (gcd_zero_iff.2 hz)]
        have : b = (C != 0) := by rw [Bool.eq_iff_iff, hb]; simp [hz]
        rw [this]; simp
      · rw [if_neg (fun h => hz (gcd_zero_iff.1 h))]
        have : b = false := by rw [Bool.eq_false_iff]; intro h; have := hb.1 h; omega
        rw [this]; rfl
    rw [if_neg k2]
    by_cases k3 : kind = 3
    · subst k3
      rw [if_pos rfl]
      by_cases hz : A = 0 ∧ B = 0
      · rw [if_pos (gcd_zero_iff.2 hz)]
        have : b = false := by rw [Bool.eq_false_iff]; intro h; have := hb.1 h; simp [hz] at this
        rw [this]; rfl
      · rw [if_neg (fun h => hz (gcd_zero_iff.1 h))]
        have : b = (Int.tmod C (Int.gcd A B) != 0) := by rw [Bool.eq_iff_iff, hb]; simp; omega
        rw [this]; simp
    rw [if_neg k3]
    by_cases k4 : kind = 4
    · subst k4
      rw [if_pos rfl]
      cases ok with
      | false =>
        rw [if_neg (by simp)]
        have : b = false := by
          rw [Bool.eq_false_iff]; intro h
          rcases hb.1 h with ⟨g, _⟩ | ⟨g, _⟩ | ⟨g, _⟩ | ⟨_, _, _, X', Y', DX', DY', g1, g2, _⟩
          · omega
          · omega
          · omega
          · have := hok.2 ⟨g1, g2⟩; simp at this
        rw [this]; rfl
      | true =>
        rw [if_pos rfl]
        by_cases t1 : T ≥ -4611686018427387904
        · rw [if_pos t1]
          by_cases t2 : T ≤ 4611686018427387904
          · rw [if_pos t2, ends_f hv (hL rfl) ⟨t1, t2⟩, Option.bind_some]
            have hg := hok.1 rfl
            have : b = decide (LeftAll xl xh yl yh sl sh X Y DX DY T ∧ RightAll xl xh yl yh sl sh X Y DX DY (T + 1)) := by
              rw [Bool.eq_iff_iff, hb, decide_eq_true_eq]
              constructor
              · rintro (⟨g, _⟩ | ⟨g, _⟩ | ⟨g, _⟩ | ⟨_, _, _, X', Y', DX', DY', _, _, g, g1, g2⟩)
                · omega
                · omega
                · omega
                · rw [ha] at g
                  injection g with g
                  injection g with e1 g
                  injection g with e2 g
                  injection g with e3 g
                  injection g with e4 g
                  subst e1 e2 e3 e4
                  exact ⟨g1, g2⟩
              · rintro ⟨g1, g2⟩
                exact .inr (.inr (.inr ⟨rfl, by omega, by omega, X, Y, DX, DY, hg.1, hg.2, ha, g1, g2⟩))
            rw [this]; simp
          · rw [if_neg t2]
            have : b = false := by rw [Bool.eq_false_iff]; intro h; have := hb.1 h; omega
            rw [this]; rfl
        · rw [if_neg t1]
          have : b = false := by rw [Bool.eq_false_iff]; intro h; have := hb.1 h; omega
          rw [this]; rfl
    · rw [if_neg k4]
      have : b = false := by rw [Bool.eq_false_iff]; intro h; have := hb.1 h; omega
      rw [this]; rfl
  · rw [if_pos (by rw [decide_eq_false hv]; rfl), awake_f (by omega), Option.bind_some]
end Go.Proofs.Ytpfkhinbehegbaa.Pure
