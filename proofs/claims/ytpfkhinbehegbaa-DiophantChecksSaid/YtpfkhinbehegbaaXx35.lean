-- Written by xprint.py for this claim.
import Derived.Test.YtpfkhinbehegbaaXx0
import Derived.Test.YtpfkhinbehegbaaXx17
namespace Go.Proofs.Ytpfkhinbehegbaa.X
open Go.RowKit Go.Proofs.YtpfkhinbehegbaaW.PrintWords Go.Proofs.YtpfkhinbehegbaaW.PrintLast Go.Proofs.YtpfkhinbehegbaaW.PrintMore
attribute [local go_sem] max2_int min2_int max_two min_two max_three min_three max_four min_four   -- for this text's walks alone
set_option linter.unusedVariables false
set_option linter.unusedSimpArgs false

/-! ### jacquardref24_At: function 37 -/
def jacquardref24_At.j0 : Nat → Int → Int → Int → Int → Bool → Option (Int)
  | 0, _, _, _, _, _ => none
  | k + 1, x0, x1, x2, x7, x13 => if x13 = true then (some x0) else ((jacquardref24_Abs.f x2).bind fun t233 => ((jacquardref24_Abs.f x1).bind fun t234 => (if t234 = 0 then (none) else (if t233 > (wrap64 (Int.tdiv x7 t234)) then (if ((decide (x2 > 0)) == (decide (x1 > 0))) = true then (some x7) else (some (wrap64 (-x7)))) else (some (wrap64 (x0 + (wrap64 (x2 * x1)))))))))
def jacquardref24_At.f (k : Nat) (a0 : Int) (a1 : Int) (a2 : Int) : Option (Int) := if a1 = 0 then (jacquardref24_At.j0 k a0 a1 a2 4611686018427387904 true) else (jacquardref24_At.j0 k a0 a1 a2 4611686018427387904 (a2 == 0))
theorem jacquardref24_At.mono_l : ∀ k, (∀ y0 y1 y2 y3 y4, LeO (jacquardref24_At.j0 k y0 y1 y2 y3 y4) (jacquardref24_At.j0 (k + 1) y0 y1 y2 y3 y4))
  | 0 => fun _ _ _ _ _ r h => by simp [jacquardref24_At.j0] at h
  | k + 1 => by
    have ih0 := jacquardref24_At.mono_l k
    · intro y0 y1 y2 y3 y4
      unfold jacquardref24_At.j0
      repeat' first
      | (with_reducible exact ih0 _ _ _ _ _)
      | (with_reducible exact LeO.refl _)
      | (with_reducible exact LeO.none _)
      | (with_reducible refine LeO.ite ?_ ?_)
      | (with_reducible refine LeO.bind ?_ (fun _ => ?_))
      | exact ih0 _ _ _ _ _
      | exact LeO.none _
      | refine LeO.ite ?_ ?_
      | refine LeO.bind ?_ (fun _ => ?_)
theorem jacquardref24_At.mono : ∀ a0 a1 a2 k, LeO (jacquardref24_At.f k a0 a1 a2) (jacquardref24_At.f (k + 1) a0 a1 a2) := by
  intro a0 a1 a2 k
  have ih0 := jacquardref24_At.mono_l k
  unfold jacquardref24_At.f
  repeat' first
      | (with_reducible exact ih0 _ _ _ _ _)
      | (with_reducible exact LeO.refl _)
      | (with_reducible exact LeO.none _)
      | (with_reducible refine LeO.ite ?_ ?_)
      | (with_reducible refine LeO.bind ?_ (fun _ => ?_))
      | exact ih0 _ _ _ _ _
      | exact LeO.none _
      | refine LeO.ite ?_ ?_
      | refine LeO.bind ?_ (fun _ => ?_)
set_option maxHeartbeats 8000000 in
set_option maxRecDepth 100000 in
theorem jacquardref24_At.calls (k : Nat) (a0 : Int) (a1 : Int) (a2 : Int) (r : Int) (w : World) (h : jacquardref24_At.f k a0 a1 a2 = some r) :
    Calls Try.prog 37 #[.int .i64 a0, .int .i64 a1, .int .i64 a2] w fun e w' => e = .returned (.int .i64 r) ∧ Drawn0 w w' := by
  have H : (if a1 = 0 then (jacquardref24_At.j0 k a0 a1 a2 4611686018427387904 true) else (jacquardref24_At.j0 k a0 a1 a2 4611686018427387904 (a2 == 0))) = some r := h
  clear h
  have HC4 := Aside0.mk H
  clear H
  go_enter Try.func37, Try.ntmps37
  go_upto_region 2 with (fail)
  go_cut [13] (fun v13 wc => ∃ (kq : Nat) (x13_3 : Bool), v13 = .bool x13_3 ∧ Aside0 (jacquardref24_At.j0 kq a0 a1 a2 4611686018427387904 x13_3 = some r) ∧ Aside0 (kq ≤ k) ∧ Drawn0 w wc)
  case first =>
    have H := HC4.out
    clear HC4
    by_cases c5 : a1 = 0
    · rw [if_pos c5] at H
      have c5b0 : (a1 == 0) = true := beq_iff_eq.mpr c5
      have c5b1 : (a1 != 0) = false := bne_eq_false_iff_eq.mpr c5
      clear c5
      (first | rw [c5b0] | (simp only [i64_w, i32_w]; rw [c5b0]) | skip)
      have H' := Aside0.mk H
      clear H
      go_wp2
      go_meet
      case rel => exact ⟨_, (true), (by first | rfl | (simp; done) | (simp [*]; done) | (simp [wrap64]; done)), H', ⟨by first | omega | exact Nat.le_refl _⟩, by repeat (first | exact Drawn0.refl _ | apply Drawn0.step)⟩
    · rw [if_neg c5] at H
      have c5b0 : (a1 == 0) = false := beq_eq_false_iff_ne.mpr c5
      have c5b1 : (a1 != 0) = true := bne_iff_ne.mpr c5
      (first | rw [c5b0] | (simp only [i64_w, i32_w]; rw [c5b0]) | skip)
      have H' := Aside0.mk H
      clear H
      go_wp2
      go_meet
      case rel => exact ⟨_, ((a2 == 0)), (by first | rfl | (simp; done) | (simp [*]; done) | (simp [wrap64]; done)), H', ⟨by first | omega | exact Nat.le_refl _⟩, by repeat (first | exact Drawn0.refl _ | apply Drawn0.step)⟩
  case rest =>
    clear HC4
    try clear p2
    try clear c3
    try clear c5
    try clear c5b0
    try clear c5b1
    obtain ⟨kq, x13_3, rfl, HA, HJ3, ⟨mc3, rfl⟩⟩ := hcut
    cases kq with
    | zero => exact absurd HA.out (by simp [jacquardref24_At.j0])
    | succ kj3 =>
      have H := HA.out
      clear HA
      simp only [jacquardref24_At.j0] at H
      by_cases c6 : x13_3 = true
      · subst c6
        have H1 : (some a0) = some r := by rw [if_pos rfl] at H; exact H
        clear H
        have H := H1
        clear H1
        obtain rfl := Option.some.inj H
        go_wp2
        go_ret
        exact ⟨by first | rfl | (simp; done) | (simp [*]; done) | (simp [wrap64]; done), by repeat (first | exact Drawn0.refl _ | apply Drawn0.step)⟩
      · replace c6 := Bool.eq_false_iff.mpr c6
        subst c6
        have H1 : ((jacquardref24_Abs.f a2).bind fun t233 => ((jacquardref24_Abs.f a1).bind fun t234 => (if t234 = 0 then (none) else (if t233 > (wrap64 (Int.tdiv 4611686018427387904 t234)) then (if ((decide (a2 > 0)) == (decide (a1 > 0))) = true then (some 4611686018427387904) else (some (wrap64 (-4611686018427387904)))) else (some (wrap64 (a0 + (wrap64 (a2 * a1))))))))) = some r := by rw [if_neg (show ¬ (false = true) by decide)] at H; exact H
        clear H
        have H := H1
        clear H1
        replace H := Option.bind_eq_some_iff.mp H
        obtain ⟨t233, A70, H⟩ := H
        replace H : ((jacquardref24_Abs.f a1).bind fun t234 => (if t234 = 0 then (none) else (if t233 > (wrap64 (Int.tdiv 4611686018427387904 t234)) then (if ((decide (a2 > 0)) == (decide (a1 > 0))) = true then (some 4611686018427387904) else (some (wrap64 (-4611686018427387904)))) else (some (wrap64 (a0 + (wrap64 (a2 * a1)))))))) = some r := H
        have A7 := Aside0.mk A70
        clear A70
        replace H := Option.bind_eq_some_iff.mp H
        obtain ⟨t234, A80, H⟩ := H
        replace H : (if t234 = 0 then (none) else (if t233 > (wrap64 (Int.tdiv 4611686018427387904 t234)) then (if ((decide (a2 > 0)) == (decide (a1 > 0))) = true then (some 4611686018427387904) else (some (wrap64 (-4611686018427387904)))) else (some (wrap64 (a0 + (wrap64 (a2 * a1))))))) = some r := H
        have A8 := Aside0.mk A80
        clear A80
        by_cases c9 : t234 = 0
        · rw [if_pos c9] at H
          exact absurd H (by simp)
        · rw [if_neg c9] at H
          have c9b0 : (t234 == 0) = false := beq_eq_false_iff_ne.mpr c9
          have c9b1 : (t234 != 0) = true := bne_iff_ne.mpr c9
          by_cases c10 : t233 > (wrap64 (Int.tdiv 4611686018427387904 t234))
          · rw [if_pos c10] at H
            have c10b0 : decide ((wrap64 (Int.tdiv 4611686018427387904 t234)) < t233) = true := decide_eq_true c10
            clear c10
            by_cases c11 : ((decide (a2 > 0)) == (decide (a1 > 0))) = true
            · rw [if_pos c11] at H
              have c11b0 : ((decide (a2 > 0)) == (decide (a1 > 0))) = true := c11
              (try (have c11b1 : decide ((decide (a2 > 0)) = (decide (a1 > 0))) = true := by simpa using c11))
              (try (have c11b2 : ((decide (a2 > 0)) == (decide (a1 > 0))) = true := by simpa using c11))
              clear c11
              obtain rfl := Option.some.inj H
              go_wp2_with (first | ((with_reducible refine gate_callee (f := 14) rfl ?_); refine goesL_ (some 16) rfl rfl Try.func14 (by kernel_rfl) rfl #[.int .i64 a2] rfl (by (try simp only [List.map_toArray, List.map_cons, List.map_nil]); first | done | rfl | (simp only [List.length_drop, List.length_take]; rfl)) ?_; (with_reducible refine (jacquardref24_Abs.calls a2 t233 _ A7.out).mono ?_); rintro e w' ⟨rfl, ⟨nd, rfl⟩⟩; refine ⟨_, rfl, ?_⟩) | ((with_reducible refine gate_callee (f := 14) rfl ?_); refine goesL_ (some 19) rfl rfl Try.func14 (by kernel_rfl) rfl #[.int .i64 a1] rfl (by (try simp only [List.map_toArray, List.map_cons, List.map_nil]); first | done | rfl | (simp only [List.length_drop, List.length_take]; rfl)) ?_; (with_reducible refine (jacquardref24_Abs.calls a1 t234 _ A8.out).mono ?_); rintro e w' ⟨rfl, ⟨nd, rfl⟩⟩; refine ⟨_, rfl, ?_⟩))
              go_ret
              exact ⟨by first | rfl | (simp; done) | (simp [*]; done) | (simp [wrap64]; done), by repeat (first | exact Drawn0.refl _ | apply Drawn0.step)⟩
            · rw [if_neg c11] at H
              have c11b0 : ((decide (a2 > 0)) == (decide (a1 > 0))) = false := by simpa using c11
              (try (have c11b1 : decide ((decide (a2 > 0)) = (decide (a1 > 0))) = false := by simpa using c11))
              (try (have c11b2 : ((decide (a2 > 0)) == (decide (a1 > 0))) = false := by simpa using c11))
              (try (have c11b3 : ¬ ((decide (a2 > 0)) = (decide (a1 > 0))) := by simpa using c11))
              clear c11
              obtain rfl := Option.some.inj H
              go_wp2_with (first | ((with_reducible refine gate_callee (f := 14) rfl ?_); refine goesL_ (some 16) rfl rfl Try.func14 (by kernel_rfl) rfl #[.int .i64 a2] rfl (by (try simp only [List.map_toArray, List.map_cons, List.map_nil]); first | done | rfl | (simp only [List.length_drop, List.length_take]; rfl)) ?_; (with_reducible refine (jacquardref24_Abs.calls a2 t233 _ A7.out).mono ?_); rintro e w' ⟨rfl, ⟨nd, rfl⟩⟩; refine ⟨_, rfl, ?_⟩) | ((with_reducible refine gate_callee (f := 14) rfl ?_); refine goesL_ (some 19) rfl rfl Try.func14 (by kernel_rfl) rfl #[.int .i64 a1] rfl (by (try simp only [List.map_toArray, List.map_cons, List.map_nil]); first | done | rfl | (simp only [List.length_drop, List.length_take]; rfl)) ?_; (with_reducible refine (jacquardref24_Abs.calls a1 t234 _ A8.out).mono ?_); rintro e w' ⟨rfl, ⟨nd, rfl⟩⟩; refine ⟨_, rfl, ?_⟩))
              go_ret
              exact ⟨by first | rfl | (simp; done) | (simp [*]; done) | (simp [wrap64]; done), by repeat (first | exact Drawn0.refl _ | apply Drawn0.step)⟩
          · rw [if_neg c10] at H
            have c10b0 : decide ((wrap64 (Int.tdiv 4611686018427387904 t234)) < t233) = false := decide_eq_false c10
            clear c10
            obtain rfl := Option.some.inj H
            go_wp2_with (first | ((with_reducible refine gate_callee (f := 14) rfl ?_); refine goesL_ (some 16) rfl rfl Try.func14 (by kernel_rfl) rfl #[.int .i64 a2] rfl (by (try simp only [List.map_toArray, List.map_cons, List.map_nil]); first | done | rfl | (simp only [List.length_drop, List.length_take]; rfl)) ?_; (with_reducible refine (jacquardref24_Abs.calls a2 t233 _ A7.out).mono ?_); rintro e w' ⟨rfl, ⟨nd, rfl⟩⟩; refine ⟨_, rfl, ?_⟩) | ((with_reducible refine gate_callee (f := 14) rfl ?_); refine goesL_ (some 19) rfl rfl Try.func14 (by kernel_rfl) rfl #[.int .i64 a1] rfl (by (try simp only [List.map_toArray, List.map_cons, List.map_nil]); first | done | rfl | (simp only [List.length_drop, List.length_take]; rfl)) ?_; (with_reducible refine (jacquardref24_Abs.calls a1 t234 _ A8.out).mono ?_); rintro e w' ⟨rfl, ⟨nd, rfl⟩⟩; refine ⟨_, rfl, ?_⟩))
            go_ret
            exact ⟨by first | rfl | (simp; done) | (simp [*]; done) | (simp [wrap64]; done), by repeat (first | exact Drawn0.refl _ | apply Drawn0.step)⟩

end Go.Proofs.Ytpfkhinbehegbaa.X
