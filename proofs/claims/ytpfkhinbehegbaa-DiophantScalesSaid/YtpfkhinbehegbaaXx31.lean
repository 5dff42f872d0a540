-- Written by xprint.py for this claim.
import Derived.Test.YtpfkhinbehegbaaXx0
import Derived.Test.YtpfkhinbehegbaaXx6
import Derived.Test.YtpfkhinbehegbaaXx8
import Derived.Test.YtpfkhinbehegbaaXx12
import Derived.Test.YtpfkhinbehegbaaXx13
import Derived.Test.YtpfkhinbehegbaaXx30
namespace Go.Proofs.Ytpfkhinbehegbaa.X
open Go.RowKit Go.Proofs.YtpfkhinbehegbaaW.PrintWords Go.Proofs.YtpfkhinbehegbaaW.PrintLast Go.Proofs.YtpfkhinbehegbaaW.PrintMore
attribute [local go_sem] max2_int min2_int max_two min_two max_three min_three max_four min_four   -- for this text's walks alone
set_option linter.unusedVariables false
set_option linter.unusedSimpArgs false

/-! ### diophant_Check: function 22 -/
def chk1 (k : Nat) (l r : Bool) (c0 c1 c2 c3 T : Int) : Option (Bool × Bool) :=
  (if l = true then some true else diophant_coordinate_outside.f k c0 c1 c2 c3 T false).bind fun l' =>
    (if r = true then some true else diophant_coordinate_outside.f k c0 c1 c2 c3 (wrap64 (T + 1)) true).bind fun r' => some (l', r')
def chk3 (k : Nat) (a0_3 a0_4 a0_5 a0_6 a0_7 a0_8 x y dx dy T : Int) : Option Bool :=
  (chk1 k false false x dx a0_3 a0_4 T).bind fun p1 => (chk1 k p1.1 p1.2 y dy a0_5 a0_6 T).bind fun p2 =>
    (chk1 k p2.1 p2.2 (wrap64 (x + y)) (wrap64 (dx + dy)) a0_7 a0_8 T).bind fun p3 => some (p3.1 && p3.2)
def diophant_Check.f (k : Nat) (a0_0 a0_1 a0_2 a0_3 a0_4 a0_5 a0_6 a0_7 a0_8 a1_0 a1_1 : Int) : Option Bool :=
  (diophant_Valid.f k a0_0 a0_1 a0_2 a0_3 a0_4 a0_5 a0_6 a0_7 a0_8).bind fun v => if v = true then
    ((diophant_All.f k a0_0 a0_1 a0_2 a0_3 a0_4 a0_5 a0_6 a0_7 a0_8).bind fun l =>
      if a1_0 = 1 then diophant_void.f a0_0 a0_1 a0_2 a0_3 a0_4 a0_5 a0_6 a0_7 a0_8
      else if a1_0 = 2 then some (((a0_0 == 0) && (a0_1 == 0)) && (a0_2 != 0))
      else if a1_0 = 3 then some (!((a0_0 == 0) && (a0_1 == 0)) && !l.2.2.2.2)
      else if a1_0 = 4 then (if l.2.2.2.2 = true ∧ -4611686018427387904 ≤ a1_1 ∧ a1_1 ≤ 4611686018427387904 then chk3 k a0_3 a0_4 a0_5 a0_6 a0_7 a0_8 l.1 l.2.1 l.2.2.1 l.2.2.2.1 a1_1 else some false)
      else some false) else some false
theorem chk1.mono (l r : Bool) (c0 c1 c2 c3 T : Int) (k : Nat) : LeO (chk1 k l r c0 c1 c2 c3 T) (chk1 (k + 1) l r c0 c1 c2 c3 T) := by
  unfold chk1
  exact LeO.bind (LeO.ite (LeO.refl _) (diophant_coordinate_outside.mono _ _ _ _ _ _ _)) (fun _ => LeO.bind (LeO.ite (LeO.refl _) (diophant_coordinate_outside.mono _ _ _ _ _ _ _)) (fun _ => LeO.refl _))
theorem chk3.mono (a0_3 a0_4 a0_5 a0_6 a0_7 a0_8 x y dx dy T : Int) (k : Nat) : LeO (chk3 k a0_3 a0_4 a0_5 a0_6 a0_7 a0_8 x y dx dy T) (chk3 (k + 1) a0_3 a0_4 a0_5 a0_6 a0_7 a0_8 x y dx dy T) := by
  unfold chk3
  exact LeO.bind (chk1.mono _ _ _ _ _ _ _ _) (fun _ => LeO.bind (chk1.mono _ _ _ _ _ _ _ _) (fun _ => LeO.bind (chk1.mono _ _ _ _ _ _ _ _) (fun _ => LeO.refl _)))
theorem diophant_Check.mono (a0_0 a0_1 a0_2 a0_3 a0_4 a0_5 a0_6 a0_7 a0_8 a1_0 a1_1 : Int) (k : Nat) : LeO (diophant_Check.f k a0_0 a0_1 a0_2 a0_3 a0_4 a0_5 a0_6 a0_7 a0_8 a1_0 a1_1) (diophant_Check.f (k + 1) a0_0 a0_1 a0_2 a0_3 a0_4 a0_5 a0_6 a0_7 a0_8 a1_0 a1_1) := by
  unfold diophant_Check.f
  exact LeO.bind (diophant_Valid.mono _ _ _ _ _ _ _ _ _ _) (fun _ => LeO.ite (LeO.bind (diophant_All.mono _ _ _ _ _ _ _ _ _ _) (fun _ => LeO.ite (LeO.refl _) (LeO.ite (LeO.refl _) (LeO.ite (LeO.refl _) (LeO.ite (LeO.ite (chk3.mono _ _ _ _ _ _ _ _ _ _ _ _) (LeO.refl _)) (LeO.refl _)))))) (LeO.refl _))

theorem bcell {W w1 : World} (hb : Below W.heap.size W w1) : (∀ b o, b < W.heap.size → w1.cell? ⟨b, o, none⟩ = W.cell? ⟨b, o, none⟩) ∧ (∀ b o, b < W.heap.size → w1.frozen? ⟨b, o, none⟩ = W.frozen? ⟨b, o, none⟩) :=
  ⟨fun b o h => hb.cell (p := ⟨b, o, none⟩) h, fun b o h => hb.frozen (p := ⟨b, o, none⟩) h⟩
theorem chk1_out {k : Nat} {l r : Bool} {c0 c1 c2 c3 T : Int} {s : Bool × Bool} (h : chk1 k l r c0 c1 c2 c3 T = some s) :
    Aside0 ((l = true → s.1 = true) ∧ (l = false → diophant_coordinate_outside.f k c0 c1 c2 c3 T false = some s.1) ∧ (r = true → s.2 = true) ∧ (r = false → diophant_coordinate_outside.f k c0 c1 c2 c3 (wrap64 (T + 1)) true = some s.2)) := by
  unfold chk1 at h
  obtain ⟨a, ha, h⟩ := Option.bind_eq_some_iff.mp h
  obtain ⟨b, hb, h⟩ := Option.bind_eq_some_iff.mp h
  have h := Option.some.inj h
  subst h
  refine ⟨?_, ?_, ?_, ?_⟩
  · rintro rfl; exact (Option.some.inj ha).symm
  · rintro rfl; exact ha
  · rintro rfl; exact (Option.some.inj hb).symm
  · rintro rfl; exact hb
set_option maxHeartbeats 8000000 in
set_option maxRecDepth 100000 in
theorem diophant_Check.calls (k : Nat) (a0_0 a0_1 a0_2 a0_3 a0_4 a0_5 a0_6 a0_7 a0_8 a1_0 a1_1 : Int) (r : Bool) (w : World) (h : diophant_Check.f k a0_0 a0_1 a0_2 a0_3 a0_4 a0_5 a0_6 a0_7 a0_8 a1_0 a1_1 = some r) :
    Calls Try.prog 22 #[.agg #[.int .i64 a0_0, .int .i64 a0_1, .int .i64 a0_2, .int .i64 a0_3, .int .i64 a0_4, .int .i64 a0_5, .int .i64 a0_6, .int .i64 a0_7, .int .i64 a0_8], .agg #[.int .i64 a1_0, .int .i64 a1_1]] w fun e w' => e = .returned (.bool r) ∧ Below w.heap.size w w' := by
  unfold diophant_Check.f at h
  obtain ⟨v, hv, h⟩ := Option.bind_eq_some_iff.mp h
  have HV := Aside0.mk hv
  have H := Aside0.mk h
  clear h hv
  go_enter Try.func22, Try.ntmps22
  go_wp2_with fail
  have HE0 := Aside0.mk (blk_alloc (blk_new w (.cells #[.int .i64 a0_0, .int .i64 a0_1, .int .i64 a0_2, .int .i64 a0_3, .int .i64 a0_4, .int .i64 a0_5, .int .i64 a0_6, .int .i64 a0_7, .int .i64 a0_8] 31)) (.cells #[.int .i64 a1_0, .int .i64 a1_1] 46))
  have HR0 := Aside0.mk (show (((w.alloc (.cells #[.int .i64 a0_0, .int .i64 a0_1, .int .i64 a0_2, .int .i64 a0_3, .int .i64 a0_4, .int .i64 a0_5, .int .i64 a0_6, .int .i64 a0_7, .int .i64 a0_8] 31)).alloc (.cells #[.int .i64 a1_0, .int .i64 a1_1] 46)).heap[w.heap.size + 1]? = some (.cells #[.int .i64 a1_0, .int .i64 a1_1] 46 (0, 0))) from by have := blk_new (w.alloc (.cells #[.int .i64 a0_0, .int .i64 a0_1, .int .i64 a0_2, .int .i64 a0_3, .int .i64 a0_4, .int .i64 a0_5, .int .i64 a0_6, .int .i64 a0_7, .int .i64 a0_8] 31)) (.cells #[.int .i64 a1_0, .int .i64 a1_1] 46); simpa using this)
  have HW0 := Aside0.mk (below_alloc (below_alloc (Below.refl w.heap.size w) (.cells #[.int .i64 a0_0, .int .i64 a0_1, .int .i64 a0_2, .int .i64 a0_3, .int .i64 a0_4, .int .i64 a0_5, .int .i64 a0_6, .int .i64 a0_7, .int .i64 a0_8] 31)) (.cells #[.int .i64 a1_0, .int .i64 a1_1] 46))
  generalize ((w.alloc (.cells #[.int .i64 a0_0, .int .i64 a0_1, .int .i64 a0_2, .int .i64 a0_3, .int .i64 a0_4, .int .i64 a0_5, .int .i64 a0_6, .int .i64 a0_7, .int .i64 a0_8] 31)).alloc (.cells #[.int .i64 a1_0, .int .i64 a1_1] 46)) = w0 at *
  refine (diophant_Valid.calls _ _ _ _ _ _ _ _ _ _ _ _ HV.out).mono ?_
  rintro e w1 ⟨rfl, hb⟩
  have HE1 := Aside0.mk (blk_below HE0.out hb)
  have HR1 := Aside0.mk (blk_below HR0.out hb)
  have HW1 := Aside0.mk (below_then HW0.out HW0.out.size hb)
  clear hb HE0 HR0 HW0
  clear w0
  cases v with
  | false =>
    have H2 := H.out
    simp only [Bool.false_eq_true, if_false, Option.some.injEq] at H2
    subst H2
    go_wp2
    go_ret
    exact ⟨rfl, HW1.out⟩
  | true =>
    have H2 := H.out
    rw [if_pos rfl] at H2
    obtain ⟨⟨x, y, dx, dy, ok⟩, hl, H3⟩ := Option.bind_eq_some_iff.mp H2
    have HL := Aside0.mk hl
    have H4 := Aside0.mk H3
    clear H2 hl H3 H
    have hz0 : (a0_0 == 0) = true ∨ (a0_0 == 0) = false := by cases (a0_0 == 0) <;> simp
    have hz1 : (a0_1 == 0) = true ∨ (a0_1 == 0) = false := by cases (a0_1 == 0) <;> simp
    have e0 : w1.cell? ⟨w.heap.size, 0, none⟩ = some (.int .i64 a0_0) := blk_cell HE1.out 0
    have e1 : w1.cell? ⟨w.heap.size, 1, none⟩ = some (.int .i64 a0_1) := blk_cell HE1.out 1
    have e2 : w1.cell? ⟨w.heap.size, 2, none⟩ = some (.int .i64 a0_2) := blk_cell HE1.out 2
    have e3 : w1.cell? ⟨w.heap.size, 3, none⟩ = some (.int .i64 a0_3) := blk_cell HE1.out 3
    have e4 : w1.cell? ⟨w.heap.size, 4, none⟩ = some (.int .i64 a0_4) := blk_cell HE1.out 4
    have e5 : w1.cell? ⟨w.heap.size, 5, none⟩ = some (.int .i64 a0_5) := blk_cell HE1.out 5
    have e6 : w1.cell? ⟨w.heap.size, 6, none⟩ = some (.int .i64 a0_6) := blk_cell HE1.out 6
    have e7 : w1.cell? ⟨w.heap.size, 7, none⟩ = some (.int .i64 a0_7) := blk_cell HE1.out 7
    have e8 : w1.cell? ⟨w.heap.size, 8, none⟩ = some (.int .i64 a0_8) := blk_cell HE1.out 8
    rcases hz0 with hz0 | hz0 <;> rcases hz1 with hz1 | hz1
    all_goals
      go_wp2_with fail
      refine (diophant_All.calls _ _ _ _ _ _ _ _ _ _ _ _ _ _ _ _ HL.out).mono ?_
      rintro e w2 ⟨rfl, hb⟩
      have HE2 := Aside0.mk (blk_below HE1.out hb)
      have HR2 := Aside0.mk (blk_below HR1.out hb)
      have HW2 := Aside0.mk (below_then HW1.out HW1.out.size hb)
      clear hb e0 e1 e2 e3 e4 e5 e6 e7 e8
      have f0 : w2.cell? ⟨w.heap.size + 1, 0, none⟩ = some (.int .i64 a1_0) := blk_cell HR2.out 0
      have f1 : w2.cell? ⟨w.heap.size + 1, 1, none⟩ = some (.int .i64 a1_1) := blk_cell HR2.out 1
      have e0 : w2.cell? ⟨w.heap.size, 0, none⟩ = some (.int .i64 a0_0) := blk_cell HE2.out 0
      have e1 : w2.cell? ⟨w.heap.size, 1, none⟩ = some (.int .i64 a0_1) := blk_cell HE2.out 1
      have e2 : w2.cell? ⟨w.heap.size, 2, none⟩ = some (.int .i64 a0_2) := blk_cell HE2.out 2
      have e3 : w2.cell? ⟨w.heap.size, 3, none⟩ = some (.int .i64 a0_3) := blk_cell HE2.out 3
      have e4 : w2.cell? ⟨w.heap.size, 4, none⟩ = some (.int .i64 a0_4) := blk_cell HE2.out 4
      have e5 : w2.cell? ⟨w.heap.size, 5, none⟩ = some (.int .i64 a0_5) := blk_cell HE2.out 5
      have e6 : w2.cell? ⟨w.heap.size, 6, none⟩ = some (.int .i64 a0_6) := blk_cell HE2.out 6
      have e7 : w2.cell? ⟨w.heap.size, 7, none⟩ = some (.int .i64 a0_7) := blk_cell HE2.out 7
      have e8 : w2.cell? ⟨w.heap.size, 8, none⟩ = some (.int .i64 a0_8) := blk_cell HE2.out 8
      have z0 : w.heap.size < w2.heap.size := blk_lt HE2.out
      have z1 : w.heap.size + 1 < w2.heap.size := blk_lt HR2.out
      by_cases k1 : a1_0 = 1
      · have hk1 : (a1_0 == 1) = true := beq_iff_eq.2 k1
        have H5 := H4.out
        rw [if_pos k1] at H5
        have H6 := Aside0.mk H5
        clear H5 H4 k1
        go_wp2_with fail
        refine (diophant_void.calls _ _ _ _ _ _ _ _ _ _ _ H6.out).mono ?_
        rintro e w3 ⟨rfl, hb⟩
        have HW3 := Aside0.mk (below_then (below_alloc HW2.out _) (below_alloc HW2.out _).size hb)
        go_wp2
        go_ret
        exact ⟨rfl, HW3.out⟩
      have hk1 : (a1_0 == 1) = false := beq_eq_false_iff_ne.2 k1
      by_cases k2 : a1_0 = 2
      · have hk2 : (a1_0 == 2) = true := beq_iff_eq.2 k2
        have H5 := H4.out
        rw [if_neg k1, if_pos k2] at H5
        have H6 := Option.some.inj H5
        rw [hz0, hz1] at H6
        subst H6
        clear H5 H4 k1 k2
        go_wp2
        go_ret
        exact ⟨by simp, below_alloc HW2.out _⟩
      have hk2 : (a1_0 == 2) = false := beq_eq_false_iff_ne.2 k2
      by_cases k3 : a1_0 = 3
      · have hk3 : (a1_0 == 3) = true := beq_iff_eq.2 k3
        have H5 := H4.out
        rw [if_neg k1, if_neg k2, if_pos k3] at H5
        have H6 := Option.some.inj H5
        rw [hz0, hz1] at H6
        subst H6
        clear H5 H4 k1 k2 k3
        go_wp2
        go_ret
        exact ⟨by simp, below_alloc HW2.out _⟩
      have hk3 : (a1_0 == 3) = false := beq_eq_false_iff_ne.2 k3
      by_cases k4 : ¬ a1_0 = 4
      · have hk4 : (a1_0 == 4) = false := beq_eq_false_iff_ne.2 k4
        have H5 := H4.out
        rw [if_neg k1, if_neg k2, if_neg k3, if_neg k4] at H5
        have H6 := Option.some.inj H5
        subst H6
        clear H5 H4 k1 k2 k3 k4
        go_wp2
        go_ret
        exact ⟨rfl, below_alloc HW2.out _⟩
      have k4 : a1_0 = 4 := by omega
      have hk4 : (a1_0 == 4) = true := beq_iff_eq.2 k4
      have H5 := H4.out
      rw [if_neg k1, if_neg k2, if_neg k3, if_pos k4] at H5
      have H6 := Aside0.mk H5
      clear H5 H4 k1 k2 k3 k4
      cases ok with
      | false =>
        have H7 := H6.out
        rw [if_neg (by rintro ⟨h1, _⟩; cases h1)] at H7
        have H8 := Option.some.inj H7
        subst H8
        clear H7 H6
        go_wp2
        go_ret
        exact ⟨rfl, below_alloc HW2.out _⟩
      | true =>
        by_cases t1 : ¬ -4611686018427387904 ≤ a1_1
        · have H7 := H6.out
          rw [if_neg (by rintro ⟨_, h1, _⟩; exact t1 h1)] at H7
          have H8 := Option.some.inj H7
          subst H8
          clear H7 H6
          have t2 : a1_1 < -4611686018427387904 := by omega
          clear t1
          go_wp2
          go_ret
          exact ⟨rfl, below_alloc HW2.out _⟩
        by_cases t2 : ¬ a1_1 ≤ 4611686018427387904
        · have H7 := H6.out
          rw [if_neg (by rintro ⟨_, _, h1⟩; exact t2 h1)] at H7
          have H8 := Option.some.inj H7
          subst H8
          clear H7 H6
          have t3 : 4611686018427387904 < a1_1 := by omega
          have t4 : -4611686018427387904 ≤ a1_1 := by omega
          clear t1 t2
          go_wp2
          go_ret
          exact ⟨rfl, below_alloc HW2.out _⟩
        have t3 : -4611686018427387904 ≤ a1_1 := by omega
        have t4 : a1_1 ≤ 4611686018427387904 := by omega
        have H7 := H6.out
        rw [if_pos ⟨rfl, t3, t4⟩] at H7
        have H8 := Aside0.mk H7
        clear H7 H6 t1 t2
        go_wp2_with fail
        refine (coords _ _ _ _ _ _ _ _ _ _ _ _ _ _).mono ?_
        rintro e w3 ⟨rfl, hb⟩
        have HR3 := Aside0.mk (blk_below (blk_alloc HR2.out _) hb)
        have HW3 := Aside0.mk (below_then (below_alloc HW2.out _) (below_alloc HW2.out _).size hb)
        clear hb z0 z1 HE1 HR1 HW1 HE2 HR2 HW2 e0 e1 e2 e3 e4 e5 e6 e7 e8 f0 f1
        obtain ⟨p1, q1, h⟩ := Option.bind_eq_some_iff.mp H8.out
        obtain ⟨p2, q2, h⟩ := Option.bind_eq_some_iff.mp h
        obtain ⟨p3, q3, h⟩ := Option.bind_eq_some_iff.mp h
        obtain ⟨S, hS0, hS3, G0, G1, G2⟩ : ∃ S : Nat → Bool × Bool, S 0 = (false, false) ∧ ((S 3).1 && (S 3).2) = r ∧ chk1 k (S 0).1 (S 0).2 x dx a0_3 a0_4 a1_1 = some (S 1) ∧ chk1 k (S 1).1 (S 1).2 y dy a0_5 a0_6 a1_1 = some (S 2) ∧ chk1 k (S 2).1 (S 2).2 (wrap64 (x + y)) (wrap64 (dx + dy)) a0_7 a0_8 a1_1 = some (S 3) :=
          ⟨fun n => if n = 0 then (false, false) else if n = 1 then p1 else if n = 2 then p2 else p3, rfl, Option.some.inj h, q1, q2, q3⟩
        have K0 := chk1_out G0
        have K1 := chk1_out G1
        have K2 := chk1_out G2
        have HS := Aside0.mk hS0
        have HT := Aside0.mk hS3
        clear h q1 q2 q3 G0 G1 G2 hS0 hS3 H8
        have i0 : ∀ w, (Instr.index 59 (.agg #[.int .i64 x, .int .i64 dx, .int .i64 a0_3, .int .i64 a0_4, .int .i64 y, .int .i64 dy, .int .i64 a0_5, .int .i64 a0_6, .int .i64 (wrap64 (x + y)), .int .i64 (wrap64 (dx + dy)), .int .i64 a0_7, .int .i64 a0_8]) (.int .i64 0)).run Try.prog w = .ok (.agg #[.int .i64 x, .int .i64 dx, .int .i64 a0_3, .int .i64 a0_4]) w := fun _ => by kernel_rfl
        have i1 : ∀ w, (Instr.index 59 (.agg #[.int .i64 x, .int .i64 dx, .int .i64 a0_3, .int .i64 a0_4, .int .i64 y, .int .i64 dy, .int .i64 a0_5, .int .i64 a0_6, .int .i64 (wrap64 (x + y)), .int .i64 (wrap64 (dx + dy)), .int .i64 a0_7, .int .i64 a0_8]) (.int .i64 1)).run Try.prog w = .ok (.agg #[.int .i64 y, .int .i64 dy, .int .i64 a0_5, .int .i64 a0_6]) w := fun _ => by kernel_rfl
        have i2 : ∀ w, (Instr.index 59 (.agg #[.int .i64 x, .int .i64 dx, .int .i64 a0_3, .int .i64 a0_4, .int .i64 y, .int .i64 dy, .int .i64 a0_5, .int .i64 a0_6, .int .i64 (wrap64 (x + y)), .int .i64 (wrap64 (dx + dy)), .int .i64 a0_7, .int .i64 a0_8]) (.int .i64 2)).run Try.prog w = .ok (.agg #[.int .i64 (wrap64 (x + y)), .int .i64 (wrap64 (dx + dy)), .int .i64 a0_7, .int .i64 a0_8]) w := fun _ => by kernel_rfl
        go_wp2_with fail
        go_loopw [8, 9, 67] (fun a b i wr => ∃ n : Nat, n ≤ 3 ∧ i = .int .i64 n ∧ a = .bool (S n).1 ∧ b = .bool (S n).2 ∧ Aside0 (wr.heap[w.heap.size + 1]? = some (.cells #[.int .i64 a1_0, .int .i64 a1_1] 46 (0, 0))) ∧ Aside0 (Below w.heap.size w wr)) (fun _ _ i _ => 3 - (intOf i).toNat)
        case atStart => exact ⟨0, by omega, rfl, by rw [HS.out], by rw [HS.out], HR3, HW3⟩
        case round =>
          obtain ⟨n, hn, rfl, rfl, rfl, HR, HW⟩ := hrel
          clear HR3 HW3
          have f1 : wr.cell? ⟨w.heap.size + 1, 1, none⟩ = some (.int .i64 a1_1) := blk_cell HR.out 1
          have z1 : w.heap.size + 1 < wr.heap.size := blk_lt HR.out
          have hw1 := Aside0.mk (show wrap64 (a1_1 + 1) = a1_1 + 1 by unfold wrap64; omega)
          rcases n with _ | _ | _ | n
          · obtain ⟨L1, L0, R1, R0⟩ := K0.out
            cases hA : (S 0).1 <;> cases hB : (S 0).2
            · have HL0 := Aside0.mk (L0 hA)
              have HR0' := R0 hB
              rw [hw1.out] at HR0'
              have HR0 := Aside0.mk HR0'
              clear HR0'
              clear L1 L0 R1 R0
              go_wp2_with (first | (go_at_call 35; (with_reducible refine (diophant_coordinate_outside.calls _ _ _ _ _ _ _ _ _ HL0.out).mono ?_); rintro e w4 ⟨rfl, hb4⟩; obtain ⟨hc4, hf4⟩ := bcell hb4; have hs4 := hb4.size; have HB4 := Aside0.mk (below_then (below_alloc HW.out _) (below_alloc HW.out _).size hb4); have HR4 := Aside0.mk (blk_below (blk_alloc HR.out _) hb4); have f4 : w4.cell? ⟨w.heap.size + 1, 1, none⟩ = some (.int .i64 a1_1) := blk_cell HR4.out 1; clear hb4) | (go_at_call 35; (with_reducible refine (diophant_coordinate_outside.calls _ _ _ _ _ _ _ _ _ HR0.out).mono ?_); rintro e w5 ⟨rfl, hb5⟩; have HB5 := Aside0.mk (below_then HB4.out HB4.out.size hb5); have HR5 := Aside0.mk (blk_below HR4.out hb5); clear hb5))
              go_roundw
              case rel => exact ⟨1, by omega, rfl, rfl, rfl, HR5, HB5⟩
              case measure => simp [intOf]
            · have HL0 := Aside0.mk (L0 hA)
              have hBn := Aside0.mk (R1 hB)
              clear L1 L0 R1 R0
              go_wp2_with (go_at_call 35; (with_reducible refine (diophant_coordinate_outside.calls _ _ _ _ _ _ _ _ _ HL0.out).mono ?_); rintro e w4 ⟨rfl, hb4⟩; obtain ⟨hc4, hf4⟩ := bcell hb4; have hs4 := hb4.size; have HB4 := Aside0.mk (below_then (below_alloc HW.out _) (below_alloc HW.out _).size hb4); have HR4 := Aside0.mk (blk_below (blk_alloc HR.out _) hb4); have f4 : w4.cell? ⟨w.heap.size + 1, 1, none⟩ = some (.int .i64 a1_1) := blk_cell HR4.out 1; clear hb4)
              go_roundw
              case rel => exact ⟨1, by omega, rfl, rfl, by rw [hBn.out], HR4, HB4⟩
              case measure => simp [intOf]
            · have HR0' := R0 hB
              rw [hw1.out] at HR0'
              have HR0 := Aside0.mk HR0'
              clear HR0'
              have hAn := Aside0.mk (L1 hA)
              clear L1 L0 R1 R0
              go_wp2_with (go_at_call 35; (with_reducible refine (diophant_coordinate_outside.calls _ _ _ _ _ _ _ _ _ HR0.out).mono ?_); rintro e w5 ⟨rfl, hb5⟩; have HB5 := Aside0.mk (below_then (below_alloc HW.out _) (below_alloc HW.out _).size hb5); have HR5 := Aside0.mk (blk_below (blk_alloc HR.out _) hb5); clear hb5)
              go_roundw
              case rel => exact ⟨1, by omega, rfl, by rw [hAn.out], rfl, HR5, HB5⟩
              case measure => simp [intOf]
            · have hAn := Aside0.mk (L1 hA)
              have hBn := Aside0.mk (R1 hB)
              clear L1 L0 R1 R0
              go_wp2
              go_roundw
              case rel => exact ⟨1, by omega, rfl, by rw [hAn.out], by rw [hBn.out], ⟨blk_alloc HR.out _⟩, ⟨below_alloc HW.out _⟩⟩
              case measure => simp [intOf]
          · obtain ⟨L1, L0, R1, R0⟩ := K1.out
            cases hA : (S 1).1 <;> cases hB : (S 1).2
            · have HL0 := Aside0.mk (L0 hA)
              have HR0' := R0 hB
              rw [hw1.out] at HR0'
              have HR0 := Aside0.mk HR0'
              clear HR0'
              clear L1 L0 R1 R0
              go_wp2_with (first | (go_at_call 35; (with_reducible refine (diophant_coordinate_outside.calls _ _ _ _ _ _ _ _ _ HL0.out).mono ?_); rintro e w4 ⟨rfl, hb4⟩; obtain ⟨hc4, hf4⟩ := bcell hb4; have hs4 := hb4.size; have HB4 := Aside0.mk (below_then (below_alloc HW.out _) (below_alloc HW.out _).size hb4); have HR4 := Aside0.mk (blk_below (blk_alloc HR.out _) hb4); have f4 : w4.cell? ⟨w.heap.size + 1, 1, none⟩ = some (.int .i64 a1_1) := blk_cell HR4.out 1; clear hb4) | (go_at_call 35; (with_reducible refine (diophant_coordinate_outside.calls _ _ _ _ _ _ _ _ _ HR0.out).mono ?_); rintro e w5 ⟨rfl, hb5⟩; have HB5 := Aside0.mk (below_then HB4.out HB4.out.size hb5); have HR5 := Aside0.mk (blk_below HR4.out hb5); clear hb5))
              go_roundw
              case rel => exact ⟨2, by omega, rfl, rfl, rfl, HR5, HB5⟩
              case measure => simp [intOf]
            · have HL0 := Aside0.mk (L0 hA)
              have hBn := Aside0.mk (R1 hB)
              clear L1 L0 R1 R0
              go_wp2_with (go_at_call 35; (with_reducible refine (diophant_coordinate_outside.calls _ _ _ _ _ _ _ _ _ HL0.out).mono ?_); rintro e w4 ⟨rfl, hb4⟩; obtain ⟨hc4, hf4⟩ := bcell hb4; have hs4 := hb4.size; have HB4 := Aside0.mk (below_then (below_alloc HW.out _) (below_alloc HW.out _).size hb4); have HR4 := Aside0.mk (blk_below (blk_alloc HR.out _) hb4); have f4 : w4.cell? ⟨w.heap.size + 1, 1, none⟩ = some (.int .i64 a1_1) := blk_cell HR4.out 1; clear hb4)
              go_roundw
              case rel => exact ⟨2, by omega, rfl, rfl, by rw [hBn.out], HR4, HB4⟩
              case measure => simp [intOf]
            · have HR0' := R0 hB
              rw [hw1.out] at HR0'
              have HR0 := Aside0.mk HR0'
              clear HR0'
              have hAn := Aside0.mk (L1 hA)
              clear L1 L0 R1 R0
              go_wp2_with (go_at_call 35; (with_reducible refine (diophant_coordinate_outside.calls _ _ _ _ _ _ _ _ _ HR0.out).mono ?_); rintro e w5 ⟨rfl, hb5⟩; have HB5 := Aside0.mk (below_then (below_alloc HW.out _) (below_alloc HW.out _).size hb5); have HR5 := Aside0.mk (blk_below (blk_alloc HR.out _) hb5); clear hb5)
              go_roundw
              case rel => exact ⟨2, by omega, rfl, by rw [hAn.out], rfl, HR5, HB5⟩
              case measure => simp [intOf]
            · have hAn := Aside0.mk (L1 hA)
              have hBn := Aside0.mk (R1 hB)
              clear L1 L0 R1 R0
              go_wp2
              go_roundw
              case rel => exact ⟨2, by omega, rfl, by rw [hAn.out], by rw [hBn.out], ⟨blk_alloc HR.out _⟩, ⟨below_alloc HW.out _⟩⟩
              case measure => simp [intOf]
          · obtain ⟨L1, L0, R1, R0⟩ := K2.out
            cases hA : (S 2).1 <;> cases hB : (S 2).2
            · have HL0 := Aside0.mk (L0 hA)
              have HR0' := R0 hB
              rw [hw1.out] at HR0'
              have HR0 := Aside0.mk HR0'
              clear HR0'
              clear L1 L0 R1 R0
              go_wp2_with (first | (go_at_call 35; (with_reducible refine (diophant_coordinate_outside.calls _ _ _ _ _ _ _ _ _ HL0.out).mono ?_); rintro e w4 ⟨rfl, hb4⟩; obtain ⟨hc4, hf4⟩ := bcell hb4; have hs4 := hb4.size; have HB4 := Aside0.mk (below_then (below_alloc HW.out _) (below_alloc HW.out _).size hb4); have HR4 := Aside0.mk (blk_below (blk_alloc HR.out _) hb4); have f4 : w4.cell? ⟨w.heap.size + 1, 1, none⟩ = some (.int .i64 a1_1) := blk_cell HR4.out 1; clear hb4) | (go_at_call 35; (with_reducible refine (diophant_coordinate_outside.calls _ _ _ _ _ _ _ _ _ HR0.out).mono ?_); rintro e w5 ⟨rfl, hb5⟩; have HB5 := Aside0.mk (below_then HB4.out HB4.out.size hb5); have HR5 := Aside0.mk (blk_below HR4.out hb5); clear hb5))
              go_roundw
              case rel => exact ⟨3, by omega, rfl, rfl, rfl, HR5, HB5⟩
              case measure => simp [intOf]
            · have HL0 := Aside0.mk (L0 hA)
              have hBn := Aside0.mk (R1 hB)
              clear L1 L0 R1 R0
              go_wp2_with (go_at_call 35; (with_reducible refine (diophant_coordinate_outside.calls _ _ _ _ _ _ _ _ _ HL0.out).mono ?_); rintro e w4 ⟨rfl, hb4⟩; obtain ⟨hc4, hf4⟩ := bcell hb4; have hs4 := hb4.size; have HB4 := Aside0.mk (below_then (below_alloc HW.out _) (below_alloc HW.out _).size hb4); have HR4 := Aside0.mk (blk_below (blk_alloc HR.out _) hb4); have f4 : w4.cell? ⟨w.heap.size + 1, 1, none⟩ = some (.int .i64 a1_1) := blk_cell HR4.out 1; clear hb4)
              go_roundw
              case rel => exact ⟨3, by omega, rfl, rfl, by rw [hBn.out], HR4, HB4⟩
              case measure => simp [intOf]
            · have HR0' := R0 hB
              rw [hw1.out] at HR0'
              have HR0 := Aside0.mk HR0'
              clear HR0'
              have hAn := Aside0.mk (L1 hA)
              clear L1 L0 R1 R0
              go_wp2_with (go_at_call 35; (with_reducible refine (diophant_coordinate_outside.calls _ _ _ _ _ _ _ _ _ HR0.out).mono ?_); rintro e w5 ⟨rfl, hb5⟩; have HB5 := Aside0.mk (below_then (below_alloc HW.out _) (below_alloc HW.out _).size hb5); have HR5 := Aside0.mk (blk_below (blk_alloc HR.out _) hb5); clear hb5)
              go_roundw
              case rel => exact ⟨3, by omega, rfl, by rw [hAn.out], rfl, HR5, HB5⟩
              case measure => simp [intOf]
            · have hAn := Aside0.mk (L1 hA)
              have hBn := Aside0.mk (R1 hB)
              clear L1 L0 R1 R0
              go_wp2
              go_roundw
              case rel => exact ⟨3, by omega, rfl, by rw [hAn.out], by rw [hBn.out], ⟨blk_alloc HR.out _⟩, ⟨below_alloc HW.out _⟩⟩
              case measure => simp [intOf]
          · obtain rfl : n = 0 := by omega
            have HT' := HT.out
            cases hA : (S 3).1 <;> cases hB : (S 3).2
            all_goals
              rw [hA, hB] at HT'
              subst HT'
              go_wp2
              go_ret
              exact ⟨by simp, HW.out⟩

end Go.Proofs.Ytpfkhinbehegbaa.X
