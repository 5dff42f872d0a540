-- Written by xprint.py and rd-xl.py for this claim.
import Derived.Test.YtpfkhinbehegbaaXx0
import Derived.Test.YtpfkhinbehegbaaXx1
import Derived.Test.YtpfkhinbehegbaaXx15
import Derived.Test.YtpfkhinbehegbaaXx17
import Derived.Test.YtpfkhinbehegbaaXx18
import Derived.Test.YtpfkhinbehegbaaXx21
import Derived.Test.YtpfkhinbehegbaaXx50
import Derived.Test.YtpfkhinbehegbaaXx8
namespace Go.Proofs.Ytpfkhinbehegbaa.X
open Go.RowKit Go.Proofs.YtpfkhinbehegbaaW.PrintWords Go.Proofs.YtpfkhinbehegbaaW.PrintLast Go.Proofs.YtpfkhinbehegbaaW.PrintMore
attribute [local go_sem] max2_int min2_int max_two min_two max_three min_three max_four min_four
set_option linter.unusedVariables false
set_option linter.unusedSimpArgs false
attribute [local go_sem high] eqA35
/-! ### jacquardlaw24_DiophantLines: function 4 -/
mutual
def jacquardlaw24_DiophantLines.j0 : Nat → Int → Bool → Int → Int → Int → Int → Int → Int → Int → Int → Int → Option (Bool)
  | 0, _, _, _, _, _, _, _, _, _, _, _ => none
  | k + 1, x1, x15, x161000, x161001, x161002, x161003, x161004, x161005, x161006, x161007, x161008 => if x15 = true then ((jacquardlaw24_awake.f k).bind fun t163 => (some t163)) else ((diophant_All.f k x161000 x161001 x161002 x161003 x161004 x161005 x161006 x161007 x161008).bind fun bt164 => ((jacquardref24_Gcd.f k x161000 x161001).bind fun t170 => (if t170 = 0 then (jacquardlaw24_DiophantLines.j1 k x1 bt164.2.2.2.2 t170 true x161000 x161001 x161002 x161003 x161004 x161005 x161006 x161007 x161008 bt164.1 bt164.2.1 bt164.2.2.1 bt164.2.2.2.1) else (jacquardlaw24_DiophantLines.j1 k x1 bt164.2.2.2.2 t170 ((Int.tmod x161002 t170) != 0) x161000 x161001 x161002 x161003 x161004 x161005 x161006 x161007 x161008 bt164.1 bt164.2.1 bt164.2.2.1 bt164.2.2.2.1))))
def jacquardlaw24_DiophantLines.j1 : Nat → Int → Bool → Int → Bool → Int → Int → Int → Int → Int → Int → Int → Int → Int → Int → Int → Int → Int → Option (Bool)
  | 0, _, _, _, _, _, _, _, _, _, _, _, _, _, _, _, _, _ => none
  | k + 1, x1, x6, x7, x35, x161000, x161001, x161002, x161003, x161004, x161005, x161006, x161007, x161008, x170000, x170001, x170002, x170003 => if x35 = true then (if x6 = true then (some false) else (some (x170000 == 0 && (x170001 == 0 && (x170002 == 0 && (x170003 == 0)))))) else (if x6 = true then (if x161001 = 0 then (if x161000 = 0 then (none) else (some (x170000 == (wrap64 (Int.tdiv x161002 x161000)) && (x170001 == 0 && (x170002 == 0 && (x170003 == 1)))))) else (if x170000 < 0 then (some false) else (if x170000 ≥ x170002 then (some false) else ((jacquardref24_Abs.f x161001).bind fun t171 => (if x7 = 0 then (none) else (if x170002 = (wrap64 (Int.tdiv t171 x7)) then (if (wrap64 ((wrap64 (x161000 * x170002)) + (wrap64 (x161001 * x170003)))) = 0 then (if (Int.tmod (wrap64 (x161002 - (wrap64 (x161000 * x170000)))) x161001) = 0 then (if x170001 = (wrap64 (Int.tdiv (wrap64 (x161002 - (wrap64 (x161000 * x170000)))) x161001)) then (some ((wrap64 ((wrap64 (x161000 * (wrap64 ((Int.tmod (wrap64 (x1)) 1000) * x170002)))) + (wrap64 (x161001 * (wrap64 ((Int.tmod (wrap64 (x1)) 1000) * x170003)))))) == 0)) else (some false)) else (some false)) else (some false)) else (some false))))))) else (some false))
end
def jacquardlaw24_DiophantLines.f (k : Nat) (a0_0 : Int) (a0_1 : Int) (a0_2 : Int) (a0_3 : Int) (a0_4 : Int) (a0_5 : Int) (a0_6 : Int) (a0_7 : Int) (a0_8 : Int) (a1 : Int) : Option (Bool) := (jacquardlaw24_awake.f k).bind fun t161 => (if t161 = true then ((jacquardref24_Valid.f a0_0 a0_1 a0_2 a0_3 a0_4 a0_5 a0_6 a0_7 a0_8).bind fun t162 => (jacquardlaw24_DiophantLines.j0 k a1 (!t162) a0_0 a0_1 a0_2 a0_3 a0_4 a0_5 a0_6 a0_7 a0_8)) else (jacquardlaw24_DiophantLines.j0 k a1 true a0_0 a0_1 a0_2 a0_3 a0_4 a0_5 a0_6 a0_7 a0_8))
theorem jacquardlaw24_DiophantLines.mono_l : ∀ k, (∀ y0 y1 y2 y3 y4 y5 y6 y7 y8 y9 y10, LeO (jacquardlaw24_DiophantLines.j0 k y0 y1 y2 y3 y4 y5 y6 y7 y8 y9 y10) (jacquardlaw24_DiophantLines.j0 (k + 1) y0 y1 y2 y3 y4 y5 y6 y7 y8 y9 y10)) ∧ (∀ y0 y1 y2 y3 y4 y5 y6 y7 y8 y9 y10 y11 y12 y13 y14 y15 y16, LeO (jacquardlaw24_DiophantLines.j1 k y0 y1 y2 y3 y4 y5 y6 y7 y8 y9 y10 y11 y12 y13 y14 y15 y16) (jacquardlaw24_DiophantLines.j1 (k + 1) y0 y1 y2 y3 y4 y5 y6 y7 y8 y9 y10 y11 y12 y13 y14 y15 y16))
  | 0 => ⟨fun _ _ _ _ _ _ _ _ _ _ _ r h => by simp [jacquardlaw24_DiophantLines.j0] at h, fun _ _ _ _ _ _ _ _ _ _ _ _ _ _ _ _ _ r h => by simp [jacquardlaw24_DiophantLines.j1] at h⟩
  | k + 1 => by
    obtain ⟨ih0, ih1⟩ := jacquardlaw24_DiophantLines.mono_l k
    refine ⟨?_, ?_⟩
    · intro y0 y1 y2 y3 y4 y5 y6 y7 y8 y9 y10
      unfold jacquardlaw24_DiophantLines.j0
      repeat' first
      | (with_reducible exact ih0 _ _ _ _ _ _ _ _ _ _ _)
      | (with_reducible exact ih1 _ _ _ _ _ _ _ _ _ _ _ _ _ _ _ _ _)
      | (with_reducible exact diophant_All.mono _ _ _ _ _ _ _ _ _ _)
      | (with_reducible exact jacquardlaw24_awake.mono _)
      | (with_reducible exact jacquardref24_Gcd.mono _ _ _)
      | (with_reducible exact LeO.refl _)
      | (with_reducible exact LeO.none _)
      | (with_reducible refine LeO.ite ?_ ?_)
      | (with_reducible refine LeO.bind ?_ (fun _ => ?_))
      | exact ih0 _ _ _ _ _ _ _ _ _ _ _
      | exact ih1 _ _ _ _ _ _ _ _ _ _ _ _ _ _ _ _ _
      | exact diophant_All.mono _ _ _ _ _ _ _ _ _ _
      | exact jacquardlaw24_awake.mono _
      | exact jacquardref24_Gcd.mono _ _ _
      | exact LeO.none _
      | refine LeO.ite ?_ ?_
      | refine LeO.bind ?_ (fun _ => ?_)
    · intro y0 y1 y2 y3 y4 y5 y6 y7 y8 y9 y10 y11 y12 y13 y14 y15 y16
      unfold jacquardlaw24_DiophantLines.j1
      repeat' first
      | (with_reducible exact ih0 _ _ _ _ _ _ _ _ _ _ _)
      | (with_reducible exact ih1 _ _ _ _ _ _ _ _ _ _ _ _ _ _ _ _ _)
      | (with_reducible exact diophant_All.mono _ _ _ _ _ _ _ _ _ _)
      | (with_reducible exact jacquardlaw24_awake.mono _)
      | (with_reducible exact jacquardref24_Gcd.mono _ _ _)
      | (with_reducible exact LeO.refl _)
      | (with_reducible exact LeO.none _)
      | (with_reducible refine LeO.ite ?_ ?_)
      | (with_reducible refine LeO.bind ?_ (fun _ => ?_))
      | exact ih0 _ _ _ _ _ _ _ _ _ _ _
      | exact ih1 _ _ _ _ _ _ _ _ _ _ _ _ _ _ _ _ _
      | exact diophant_All.mono _ _ _ _ _ _ _ _ _ _
      | exact jacquardlaw24_awake.mono _
      | exact jacquardref24_Gcd.mono _ _ _
      | exact LeO.none _
      | refine LeO.ite ?_ ?_
      | refine LeO.bind ?_ (fun _ => ?_)
theorem jacquardlaw24_DiophantLines.mono : ∀ a0 a1 a2 a3 a4 a5 a6 a7 a8 a9 k, LeO (jacquardlaw24_DiophantLines.f k a0 a1 a2 a3 a4 a5 a6 a7 a8 a9) (jacquardlaw24_DiophantLines.f (k + 1) a0 a1 a2 a3 a4 a5 a6 a7 a8 a9) := by
  intro a0 a1 a2 a3 a4 a5 a6 a7 a8 a9 k
  obtain ⟨ih0, ih1⟩ := jacquardlaw24_DiophantLines.mono_l k
  unfold jacquardlaw24_DiophantLines.f
  repeat' first
      | (with_reducible exact ih0 _ _ _ _ _ _ _ _ _ _ _)
      | (with_reducible exact ih1 _ _ _ _ _ _ _ _ _ _ _ _ _ _ _ _ _)
      | (with_reducible exact diophant_All.mono _ _ _ _ _ _ _ _ _ _)
      | (with_reducible exact jacquardlaw24_awake.mono _)
      | (with_reducible exact jacquardref24_Gcd.mono _ _ _)
      | (with_reducible exact LeO.refl _)
      | (with_reducible exact LeO.none _)
      | (with_reducible refine LeO.ite ?_ ?_)
      | (with_reducible refine LeO.bind ?_ (fun _ => ?_))
      | exact ih0 _ _ _ _ _ _ _ _ _ _ _
      | exact ih1 _ _ _ _ _ _ _ _ _ _ _ _ _ _ _ _ _
      | exact diophant_All.mono _ _ _ _ _ _ _ _ _ _
      | exact jacquardlaw24_awake.mono _
      | exact jacquardref24_Gcd.mono _ _ _
      | exact LeO.none _
      | refine LeO.ite ?_ ?_
      | refine LeO.bind ?_ (fun _ => ?_)
set_option maxHeartbeats 8000000 in
set_option maxRecDepth 100000 in
theorem jacquardlaw24_DiophantLines.calls (k : Nat) (a0_0 : Int) (a0_1 : Int) (a0_2 : Int) (a0_3 : Int) (a0_4 : Int) (a0_5 : Int) (a0_6 : Int) (a0_7 : Int) (a0_8 : Int) (a1 : Int) (r : Bool) (w : World) (h : jacquardlaw24_DiophantLines.f k a0_0 a0_1 a0_2 a0_3 a0_4 a0_5 a0_6 a0_7 a0_8 a1 = some r) :
    Calls Try.prog 4 #[.agg #[.int .i64 a0_0, .int .i64 a0_1, .int .i64 a0_2, .int .i64 a0_3, .int .i64 a0_4, .int .i64 a0_5, .int .i64 a0_6, .int .i64 a0_7, .int .i64 a0_8], .int .i16 a1] w fun e w' => e = .returned (.bool r) ∧ Below w.heap.size w w' := by
  have hu31 := Try.underlying31
  have hu35 := Try.underlying35
  have HB := Aside0.mk (Below.refl w.heap.size w)
  have H : ((jacquardlaw24_awake.f k).bind fun t161 => (if t161 = true then ((jacquardref24_Valid.f a0_0 a0_1 a0_2 a0_3 a0_4 a0_5 a0_6 a0_7 a0_8).bind fun t162 => (jacquardlaw24_DiophantLines.j0 k a1 (!t162) a0_0 a0_1 a0_2 a0_3 a0_4 a0_5 a0_6 a0_7 a0_8)) else (jacquardlaw24_DiophantLines.j0 k a1 true a0_0 a0_1 a0_2 a0_3 a0_4 a0_5 a0_6 a0_7 a0_8))) = some r := h
  clear h
  have HC3 := Aside0.mk H
  clear H
  go_enter Try.func4, Try.ntmps4
  go_upto_region 1 with (first | ((with_reducible refine gate_dst (N := 2) rfl ?_); refine box_event ?hg (N := 2) ?hd (cs := #[.int .i64 a0_0, .int .i64 a0_1, .int .i64 a0_2, .int .i64 a0_3, .int .i64 a0_4, .int .i64 a0_5, .int .i64 a0_6, .int .i64 a0_7, .int .i64 a0_8]) (t := 31) ?hr ?_; (case hd => rfl); (case hg => rfl); (case hr => first | (go_simp; done) | (go_simp; rfl)); intro gb160 hg w4 hbox hb; have n0_ := Aside0.mk (below_step (by repeat (first | (with_reducible first | exact HB.out | apply below_alloc | apply pw_below_drewN | apply below_drew1) | exact HB.out)) hb); have n1_ := Aside0.mk (hbox); have n2_ := Aside0.mk ((by rw [hg]; exact (below_size (by repeat (first | (with_reducible first | exact HB.out | apply below_alloc | apply pw_below_drewN | apply below_drew1) | exact HB.out))) : w.heap.size ≤ gb160)); have n3_ := Aside0.mk ((by rw [hg]; exact (below_size (by repeat (first | (with_reducible first | exact HB.out | apply below_alloc | apply pw_below_drewN | apply below_drew1) | exact HB.out))) : w.heap.size ≤ gb160)); clear HB; have HB := n0_; have BK160 := n1_; have GW160 := n2_; have GE160 := n3_; clear n0_ n1_ n2_ n3_; clear hb hbox hg))
  repeat (go_quiet (first | ((with_reducible refine gate_dst (N := 2) rfl ?_); refine box_event ?hg (N := 2) ?hd (cs := #[.int .i64 a0_0, .int .i64 a0_1, .int .i64 a0_2, .int .i64 a0_3, .int .i64 a0_4, .int .i64 a0_5, .int .i64 a0_6, .int .i64 a0_7, .int .i64 a0_8]) (t := 31) ?hr ?_; (case hd => rfl); (case hg => rfl); (case hr => first | (go_simp; done) | (go_simp; rfl)); intro gb160 hg w4 hbox hb; have n0_ := Aside0.mk (below_step (by repeat (first | (with_reducible first | exact HB.out | apply below_alloc | apply pw_below_drewN | apply below_drew1) | exact HB.out)) hb); have n1_ := Aside0.mk (hbox); have n2_ := Aside0.mk ((by rw [hg]; exact (below_size (by repeat (first | (with_reducible first | exact HB.out | apply below_alloc | apply pw_below_drewN | apply below_drew1) | exact HB.out))) : w.heap.size ≤ gb160)); have n3_ := Aside0.mk ((by rw [hg]; exact (below_size (by repeat (first | (with_reducible first | exact HB.out | apply below_alloc | apply pw_below_drewN | apply below_drew1) | exact HB.out))) : w.heap.size ≤ gb160)); clear HB; have HB := n0_; have BK160 := n1_; have GW160 := n2_; have GE160 := n3_; clear n0_ n1_ n2_ n3_; clear hb hbox hg)); go_upto_region 1 with (first | ((with_reducible refine gate_dst (N := 2) rfl ?_); refine box_event ?hg (N := 2) ?hd (cs := #[.int .i64 a0_0, .int .i64 a0_1, .int .i64 a0_2, .int .i64 a0_3, .int .i64 a0_4, .int .i64 a0_5, .int .i64 a0_6, .int .i64 a0_7, .int .i64 a0_8]) (t := 31) ?hr ?_; (case hd => rfl); (case hg => rfl); (case hr => first | (go_simp; done) | (go_simp; rfl)); intro gb160 hg w4 hbox hb; have n0_ := Aside0.mk (below_step (by repeat (first | (with_reducible first | exact HB.out | apply below_alloc | apply pw_below_drewN | apply below_drew1) | exact HB.out)) hb); have n1_ := Aside0.mk (hbox); have n2_ := Aside0.mk ((by rw [hg]; exact (below_size (by repeat (first | (with_reducible first | exact HB.out | apply below_alloc | apply pw_below_drewN | apply below_drew1) | exact HB.out))) : w.heap.size ≤ gb160)); have n3_ := Aside0.mk ((by rw [hg]; exact (below_size (by repeat (first | (with_reducible first | exact HB.out | apply below_alloc | apply pw_below_drewN | apply below_drew1) | exact HB.out))) : w.heap.size ≤ gb160)); clear HB; have HB := n0_; have BK160 := n1_; have GW160 := n2_; have GE160 := n3_; clear n0_ n1_ n2_ n3_; clear hb hbox hg)))
  (try simp only [Act.put, List.setIfInBounds_toArray, List.set_cons_zero, List.set_cons_succ])
  go_cut [15] (fun v15 wc => ∃ (kq : Nat) (x15_2 : Bool), v15 = .bool x15_2 ∧ Aside0 (jacquardlaw24_DiophantLines.j0 kq a1 x15_2 a0_0 a0_1 a0_2 a0_3 a0_4 a0_5 a0_6 a0_7 a0_8 = some r) ∧ Aside0 (kq ≤ k) ∧ Aside0 (wc.heap[gb160]? = some (.cells #[.int .i64 a0_0, .int .i64 a0_1, .int .i64 a0_2, .int .i64 a0_3, .int .i64 a0_4, .int .i64 a0_5, .int .i64 a0_6, .int .i64 a0_7, .int .i64 a0_8] 31 (0, 0))) ∧ Aside0 (Below w.heap.size w wc))
  case first =>
    have H := HC3.out
    clear HC3
    replace H := Option.bind_eq_some_iff.mp H
    obtain ⟨t161, A50, H⟩ := H
    replace H : (if t161 = true then ((jacquardref24_Valid.f a0_0 a0_1 a0_2 a0_3 a0_4 a0_5 a0_6 a0_7 a0_8).bind fun t162 => (jacquardlaw24_DiophantLines.j0 k a1 (!t162) a0_0 a0_1 a0_2 a0_3 a0_4 a0_5 a0_6 a0_7 a0_8)) else (jacquardlaw24_DiophantLines.j0 k a1 true a0_0 a0_1 a0_2 a0_3 a0_4 a0_5 a0_6 a0_7 a0_8)) = some r := H
    have A5 := Aside0.mk A50
    clear A50
    by_cases c6 : t161 = true
    · subst c6
      have H1 : ((jacquardref24_Valid.f a0_0 a0_1 a0_2 a0_3 a0_4 a0_5 a0_6 a0_7 a0_8).bind fun t162 => (jacquardlaw24_DiophantLines.j0 k a1 (!t162) a0_0 a0_1 a0_2 a0_3 a0_4 a0_5 a0_6 a0_7 a0_8)) = some r := by rw [if_pos rfl] at H; exact H
      clear H
      have H := H1
      clear H1
      replace H := Option.bind_eq_some_iff.mp H
      obtain ⟨t162, A70, H⟩ := H
      replace H : (jacquardlaw24_DiophantLines.j0 k a1 (!t162) a0_0 a0_1 a0_2 a0_3 a0_4 a0_5 a0_6 a0_7 a0_8) = some r := H
      have A7 := Aside0.mk A70
      clear A70
      have H' := Aside0.mk H
      clear H
      go_wp2_with (first | (go_at_call 11; (with_reducible refine (jacquardlaw24_awake.calls k  true _ A5.out).mono ?_); rintro e w8 ⟨rfl, hb⟩; have n0_ := Aside0.mk (blk_below (g := gb160) (by (with_reducible repeat (first | refine blk_drewN ?_ _ | refine blk_drew ?_ | refine blk_alloc ?_ _)); exact BK160.out) hb); have n1_ := Aside0.mk (below_step (by repeat (first | (with_reducible first | exact HB.out | apply below_alloc | apply pw_below_drewN | apply below_drew1 | refine below_set ?_ GE160.out) | exact HB.out)) hb); clear BK160; clear HB; have BK160 := n0_; have HB := n1_; clear n0_ n1_; (try clear hb); obtain ⟨_, _, _, _, _, _, _, _, _⟩ := sq_cells9 BK160.out; obtain ⟨_, _, _, _, _, _, _, _, _⟩ := sq_free9 BK160.out) | (go_at_call 16; (with_reducible refine (jacquardref24_Valid.calls a0_0 a0_1 a0_2 a0_3 a0_4 a0_5 a0_6 a0_7 a0_8 t162 _ A7.out).mono ?_); rintro e w10 ⟨rfl, hb⟩; have n0_ := Aside0.mk (blk_below (g := gb160) (by (with_reducible repeat (first | refine blk_drewN ?_ _ | refine blk_drew ?_ | refine blk_alloc ?_ _)); exact BK160.out) hb); have n1_ := Aside0.mk (below_step (by repeat (first | (with_reducible first | exact HB.out | apply below_alloc | apply pw_below_drewN | apply below_drew1 | refine below_set ?_ GE160.out) | exact HB.out)) hb); clear BK160; clear HB; have BK160 := n0_; have HB := n1_; clear n0_ n1_; (try clear hb)))
      repeat (go_quiet (first | (go_at_call 11; (with_reducible refine (jacquardlaw24_awake.calls k  true _ A5.out).mono ?_); rintro e w8 ⟨rfl, hb⟩; have n0_ := Aside0.mk (blk_below (g := gb160) (by (with_reducible repeat (first | refine blk_drewN ?_ _ | refine blk_drew ?_ | refine blk_alloc ?_ _)); exact BK160.out) hb); have n1_ := Aside0.mk (below_step (by repeat (first | (with_reducible first | exact HB.out | apply below_alloc | apply pw_below_drewN | apply below_drew1 | refine below_set ?_ GE160.out) | exact HB.out)) hb); clear BK160; clear HB; have BK160 := n0_; have HB := n1_; clear n0_ n1_; (try clear hb); obtain ⟨_, _, _, _, _, _, _, _, _⟩ := sq_cells9 BK160.out; obtain ⟨_, _, _, _, _, _, _, _, _⟩ := sq_free9 BK160.out) | (go_at_call 16; (with_reducible refine (jacquardref24_Valid.calls a0_0 a0_1 a0_2 a0_3 a0_4 a0_5 a0_6 a0_7 a0_8 t162 _ A7.out).mono ?_); rintro e w10 ⟨rfl, hb⟩; have n0_ := Aside0.mk (blk_below (g := gb160) (by (with_reducible repeat (first | refine blk_drewN ?_ _ | refine blk_drew ?_ | refine blk_alloc ?_ _)); exact BK160.out) hb); have n1_ := Aside0.mk (below_step (by repeat (first | (with_reducible first | exact HB.out | apply below_alloc | apply pw_below_drewN | apply below_drew1 | refine below_set ?_ GE160.out) | exact HB.out)) hb); clear BK160; clear HB; have BK160 := n0_; have HB := n1_; clear n0_ n1_; (try clear hb))); try go_wp2_with (first | (go_at_call 11; (with_reducible refine (jacquardlaw24_awake.calls k  true _ A5.out).mono ?_); rintro e w8 ⟨rfl, hb⟩; have n0_ := Aside0.mk (blk_below (g := gb160) (by (with_reducible repeat (first | refine blk_drewN ?_ _ | refine blk_drew ?_ | refine blk_alloc ?_ _)); exact BK160.out) hb); have n1_ := Aside0.mk (below_step (by repeat (first | (with_reducible first | exact HB.out | apply below_alloc | apply pw_below_drewN | apply below_drew1 | refine below_set ?_ GE160.out) | exact HB.out)) hb); clear BK160; clear HB; have BK160 := n0_; have HB := n1_; clear n0_ n1_; (try clear hb); obtain ⟨_, _, _, _, _, _, _, _, _⟩ := sq_cells9 BK160.out; obtain ⟨_, _, _, _, _, _, _, _, _⟩ := sq_free9 BK160.out) | (go_at_call 16; (with_reducible refine (jacquardref24_Valid.calls a0_0 a0_1 a0_2 a0_3 a0_4 a0_5 a0_6 a0_7 a0_8 t162 _ A7.out).mono ?_); rintro e w10 ⟨rfl, hb⟩; have n0_ := Aside0.mk (blk_below (g := gb160) (by (with_reducible repeat (first | refine blk_drewN ?_ _ | refine blk_drew ?_ | refine blk_alloc ?_ _)); exact BK160.out) hb); have n1_ := Aside0.mk (below_step (by repeat (first | (with_reducible first | exact HB.out | apply below_alloc | apply pw_below_drewN | apply below_drew1 | refine below_set ?_ GE160.out) | exact HB.out)) hb); clear BK160; clear HB; have BK160 := n0_; have HB := n1_; clear n0_ n1_; (try clear hb))))
      go_meet
      case rel => exact ⟨_, (!t162), (by first | rfl | (simp; done) | (simp [*]; done)), H', ⟨by first | omega | exact Nat.le_refl _⟩, ⟨by (with_reducible repeat (first | refine blk_drewN ?_ _ | refine blk_drew ?_ | refine blk_alloc ?_ _)); exact BK160.out⟩, ⟨by repeat (first | (with_reducible first | exact HB.out | apply below_alloc | apply pw_below_drewN | apply below_drew1 | refine below_set ?_ GE160.out) | exact HB.out)⟩⟩
    · replace c6 := Bool.eq_false_iff.mpr c6
      subst c6
      have H1 : (jacquardlaw24_DiophantLines.j0 k a1 true a0_0 a0_1 a0_2 a0_3 a0_4 a0_5 a0_6 a0_7 a0_8) = some r := by rw [if_neg (show ¬ (false = true) by decide)] at H; exact H
      clear H
      have H := H1
      clear H1
      have H' := Aside0.mk H
      clear H
      go_wp2_with (first | (go_at_call 11; (with_reducible refine (jacquardlaw24_awake.calls k  false _ A5.out).mono ?_); rintro e w11 ⟨rfl, hb⟩; have n0_ := Aside0.mk (blk_below (g := gb160) (by (with_reducible repeat (first | refine blk_drewN ?_ _ | refine blk_drew ?_ | refine blk_alloc ?_ _)); exact BK160.out) hb); have n1_ := Aside0.mk (below_step (by repeat (first | (with_reducible first | exact HB.out | apply below_alloc | apply pw_below_drewN | apply below_drew1 | refine below_set ?_ GE160.out) | exact HB.out)) hb); clear BK160; clear HB; have BK160 := n0_; have HB := n1_; clear n0_ n1_; (try clear hb)))
      repeat (go_quiet (first | (go_at_call 11; (with_reducible refine (jacquardlaw24_awake.calls k  false _ A5.out).mono ?_); rintro e w11 ⟨rfl, hb⟩; have n0_ := Aside0.mk (blk_below (g := gb160) (by (with_reducible repeat (first | refine blk_drewN ?_ _ | refine blk_drew ?_ | refine blk_alloc ?_ _)); exact BK160.out) hb); have n1_ := Aside0.mk (below_step (by repeat (first | (with_reducible first | exact HB.out | apply below_alloc | apply pw_below_drewN | apply below_drew1 | refine below_set ?_ GE160.out) | exact HB.out)) hb); clear BK160; clear HB; have BK160 := n0_; have HB := n1_; clear n0_ n1_; (try clear hb))); try go_wp2_with (first | (go_at_call 11; (with_reducible refine (jacquardlaw24_awake.calls k  false _ A5.out).mono ?_); rintro e w11 ⟨rfl, hb⟩; have n0_ := Aside0.mk (blk_below (g := gb160) (by (with_reducible repeat (first | refine blk_drewN ?_ _ | refine blk_drew ?_ | refine blk_alloc ?_ _)); exact BK160.out) hb); have n1_ := Aside0.mk (below_step (by repeat (first | (with_reducible first | exact HB.out | apply below_alloc | apply pw_below_drewN | apply below_drew1 | refine below_set ?_ GE160.out) | exact HB.out)) hb); clear BK160; clear HB; have BK160 := n0_; have HB := n1_; clear n0_ n1_; (try clear hb))))
      go_meet
      case rel => exact ⟨_, (true), (by first | rfl | (simp; done) | (simp [*]; done)), H', ⟨by first | omega | exact Nat.le_refl _⟩, ⟨by (with_reducible repeat (first | refine blk_drewN ?_ _ | refine blk_drew ?_ | refine blk_alloc ?_ _)); exact BK160.out⟩, ⟨by repeat (first | (with_reducible first | exact HB.out | apply below_alloc | apply pw_below_drewN | apply below_drew1 | refine below_set ?_ GE160.out) | exact HB.out)⟩⟩
  case rest =>
    clear HC3
    try clear p2
    try clear c4
    try clear c6
    try clear hcz9_0
    try clear hcz9_1
    try clear hcz9_2
    try clear hcz9_3
    try clear hcz9_4
    try clear hcz9_5
    try clear hcz9_6
    try clear hcz9_7
    try clear hcz9_8
    try clear hfz9_0
    try clear hfz9_1
    try clear hfz9_2
    try clear hfz9_3
    try clear hfz9_4
    try clear hfz9_5
    try clear hfz9_6
    try clear hfz9_7
    try clear hfz9_8
    obtain ⟨kq, x15_2, rfl, HA, HJ2, BK160, HB⟩ := hcut
    cases kq with
    | zero => exact absurd HA.out (by simp [jacquardlaw24_DiophantLines.j0])
    | succ kj2 =>
      have H := HA.out
      clear HA
      simp only [jacquardlaw24_DiophantLines.j0] at H
      by_cases c12 : x15_2 = true
      · subst c12
        have H1 : ((jacquardlaw24_awake.f kj2).bind fun t163 => (some t163)) = some r := by rw [if_pos rfl] at H; exact H
        clear H
        have H := H1
        clear H1
        replace H := Option.bind_eq_some_iff.mp H
        obtain ⟨t163, A130, H⟩ := H
        replace H : (some t163) = some r := H
        have A13 := Aside0.mk A130
        clear A130
        obtain rfl := Option.some.inj H
        go_wp2_with (first | (go_at_call 11; (with_reducible refine (jacquardlaw24_awake.calls kj2  t163 _ A13.out).mono ?_); rintro e w14 ⟨rfl, hb⟩; have n0_ := Aside0.mk (blk_below (g := gb160) (by (with_reducible repeat (first | refine blk_drewN ?_ _ | refine blk_drew ?_ | refine blk_alloc ?_ _)); exact BK160.out) hb); have n1_ := Aside0.mk (below_step (by repeat (first | (with_reducible first | exact HB.out | apply below_alloc | apply pw_below_drewN | apply below_drew1 | refine below_set ?_ GE160.out) | exact HB.out)) hb); clear BK160; clear HB; have BK160 := n0_; have HB := n1_; clear n0_ n1_; (try clear hb)))
        repeat (go_quiet (first | (go_at_call 11; (with_reducible refine (jacquardlaw24_awake.calls kj2  t163 _ A13.out).mono ?_); rintro e w14 ⟨rfl, hb⟩; have n0_ := Aside0.mk (blk_below (g := gb160) (by (with_reducible repeat (first | refine blk_drewN ?_ _ | refine blk_drew ?_ | refine blk_alloc ?_ _)); exact BK160.out) hb); have n1_ := Aside0.mk (below_step (by repeat (first | (with_reducible first | exact HB.out | apply below_alloc | apply pw_below_drewN | apply below_drew1 | refine below_set ?_ GE160.out) | exact HB.out)) hb); clear BK160; clear HB; have BK160 := n0_; have HB := n1_; clear n0_ n1_; (try clear hb))); try go_wp2_with (first | (go_at_call 11; (with_reducible refine (jacquardlaw24_awake.calls kj2  t163 _ A13.out).mono ?_); rintro e w14 ⟨rfl, hb⟩; have n0_ := Aside0.mk (blk_below (g := gb160) (by (with_reducible repeat (first | refine blk_drewN ?_ _ | refine blk_drew ?_ | refine blk_alloc ?_ _)); exact BK160.out) hb); have n1_ := Aside0.mk (below_step (by repeat (first | (with_reducible first | exact HB.out | apply below_alloc | apply pw_below_drewN | apply below_drew1 | refine below_set ?_ GE160.out) | exact HB.out)) hb); clear BK160; clear HB; have BK160 := n0_; have HB := n1_; clear n0_ n1_; (try clear hb))))
        go_ret
        exact ⟨by first | rfl | (simp [errW_none, errW_some] <;> rfl) | (simp [*, errW_none, errW_some] <;> rfl), by repeat (first | (with_reducible first | exact HB.out | apply below_alloc | apply pw_below_drewN | apply below_drew1 | refine below_set ?_ GE160.out) | exact HB.out)⟩
      · replace c12 := Bool.eq_false_iff.mpr c12
        subst c12
        have H1 : ((diophant_All.f kj2 a0_0 a0_1 a0_2 a0_3 a0_4 a0_5 a0_6 a0_7 a0_8).bind fun bt164 => ((jacquardref24_Gcd.f kj2 a0_0 a0_1).bind fun t170 => (if t170 = 0 then (jacquardlaw24_DiophantLines.j1 kj2 a1 bt164.2.2.2.2 t170 true a0_0 a0_1 a0_2 a0_3 a0_4 a0_5 a0_6 a0_7 a0_8 bt164.1 bt164.2.1 bt164.2.2.1 bt164.2.2.2.1) else (jacquardlaw24_DiophantLines.j1 kj2 a1 bt164.2.2.2.2 t170 ((Int.tmod a0_2 t170) != 0) a0_0 a0_1 a0_2 a0_3 a0_4 a0_5 a0_6 a0_7 a0_8 bt164.1 bt164.2.1 bt164.2.2.1 bt164.2.2.2.1)))) = some r := by rw [if_neg (show ¬ (false = true) by decide)] at H; exact H
        clear H
        have H := H1
        clear H1
        replace H := Option.bind_eq_some_iff.mp H
        obtain ⟨⟨t164, t165, t166, t167, t168⟩, A150, H⟩ := H
        replace H : ((jacquardref24_Gcd.f kj2 a0_0 a0_1).bind fun t170 => (if t170 = 0 then (jacquardlaw24_DiophantLines.j1 kj2 a1 t168 t170 true a0_0 a0_1 a0_2 a0_3 a0_4 a0_5 a0_6 a0_7 a0_8 t164 t165 t166 t167) else (jacquardlaw24_DiophantLines.j1 kj2 a1 t168 t170 ((Int.tmod a0_2 t170) != 0) a0_0 a0_1 a0_2 a0_3 a0_4 a0_5 a0_6 a0_7 a0_8 t164 t165 t166 t167))) = some r := H
        have A15 := Aside0.mk A150
        clear A150
        replace H := Option.bind_eq_some_iff.mp H
        obtain ⟨t170, A160, H⟩ := H
        replace H : (if t170 = 0 then (jacquardlaw24_DiophantLines.j1 kj2 a1 t168 t170 true a0_0 a0_1 a0_2 a0_3 a0_4 a0_5 a0_6 a0_7 a0_8 t164 t165 t166 t167) else (jacquardlaw24_DiophantLines.j1 kj2 a1 t168 t170 ((Int.tmod a0_2 t170) != 0) a0_0 a0_1 a0_2 a0_3 a0_4 a0_5 a0_6 a0_7 a0_8 t164 t165 t166 t167)) = some r := H
        have A16 := Aside0.mk A160
        clear A160
        have HC17 := Aside0.mk H
        clear H
        obtain ⟨_, _, _, _, _, _, _, _, _⟩ := sq_cells9 BK160.out
        obtain ⟨_, _, _, _, _, _, _, _, _⟩ := sq_free9 BK160.out
        go_upto_region 5 with (first | (go_at_call 17; (with_reducible refine (diophant_All.calls kj2 a0_0 a0_1 a0_2 a0_3 a0_4 a0_5 a0_6 a0_7 a0_8 t164 t165 t166 t167 t168 _ A15.out).mono ?_); rintro e w19 ⟨rfl, hb⟩; have n0_ := Aside0.mk (blk_below (g := gb160) (by (with_reducible repeat (first | refine blk_drewN ?_ _ | refine blk_drew ?_ | refine blk_alloc ?_ _)); exact BK160.out) hb); have n1_ := Aside0.mk (below_step (by repeat (first | (with_reducible first | exact HB.out | apply below_alloc | apply pw_below_drewN | apply below_drew1 | refine below_set ?_ GE160.out) | exact HB.out)) hb); clear BK160; clear HB; have BK160 := n0_; have HB := n1_; clear n0_ n1_; (try clear hb)) | ((with_reducible refine gate_dst (N := 5) rfl ?_); refine box_event ?hg (N := 5) ?hd (cs := #[.int .i64 0, .int .i64 0, .int .i64 0, .int .i64 0]) (t := 35) ?hr ?_; (case hd => rfl); (case hg => rfl); (case hr => first | (go_simp; done) | (go_simp; rfl)); intro gb169 hg w20 hbox hb; have n0_ := Aside0.mk (blk_below (g := gb160) (by (with_reducible repeat (first | refine blk_drewN ?_ _ | refine blk_drew ?_ | refine blk_alloc ?_ _)); exact BK160.out) hb); have n1_ := Aside0.mk (below_step (by repeat (first | (with_reducible first | exact HB.out | apply below_alloc | apply pw_below_drewN | apply below_drew1 | refine below_set ?_ GE160.out) | exact HB.out)) hb); have n2_ := Aside0.mk (hbox); have n3_ := Aside0.mk ((by rw [hg]; exact (below_size (by repeat (first | (with_reducible first | exact HB.out | apply below_alloc | apply pw_below_drewN | apply below_drew1 | refine below_set ?_ GE160.out) | exact HB.out))) : w.heap.size ≤ gb169)); have n4_ := Aside0.mk ((by rw [hg]; exact (below_size (by repeat (first | (with_reducible first | exact HB.out | apply below_alloc | apply pw_below_drewN | apply below_drew1 | refine below_set ?_ GE160.out) | exact HB.out))) : w.heap.size ≤ gb169)); have n5_ := Aside0.mk ((by rw [hg]; exact Nat.ne_of_lt (blk_lt (g := gb160) (by (with_reducible repeat (first | refine blk_drewN ?_ _ | refine blk_drew ?_ | refine blk_alloc ?_ _)); exact BK160.out)) : gb160 ≠ gb169)); have n6_ := Aside0.mk ((by rw [hg]; exact Nat.ne_of_gt (blk_lt (g := gb160) (by (with_reducible repeat (first | refine blk_drewN ?_ _ | refine blk_drew ?_ | refine blk_alloc ?_ _)); exact BK160.out)) : gb169 ≠ gb160)); clear BK160; clear HB; have BK160 := n0_; have HB := n1_; have BK169 := n2_; have GW169 := n3_; have GE169 := n4_; have NB160_169 := n5_; have NB169_160 := n6_; clear n0_ n1_ n2_ n3_ n4_ n5_ n6_; clear hb hbox hg; have hnb21 := NB169_160.out; have hnc21 := NB160_169.out; obtain ⟨_, _, _, _⟩ := sq_cells4 BK169.out; obtain ⟨_, _, _, _⟩ := sq_free4 BK169.out; obtain ⟨_, _, _, _, _, _, _, _, _⟩ := sq_cells9 BK160.out; obtain ⟨_, _, _, _, _, _, _, _, _⟩ := sq_free9 BK160.out) | (go_at_call 15; (with_reducible refine (jacquardref24_Gcd.calls kj2 a0_0 a0_1 t170 _ A16.out).mono ?_); rintro e w' ⟨rfl, ⟨nd, rfl⟩⟩; (try first | exact ⟨rfl, _, World.drewN_drewN _ _ _⟩ | exact ⟨rfl, _, Eq.trans (World.drewN_drewN _ _ _) (congrArg (World.drewN _) (Nat.add_assoc _ _ _))⟩)))
        repeat (go_quiet (first | (go_at_call 17; (with_reducible refine (diophant_All.calls kj2 a0_0 a0_1 a0_2 a0_3 a0_4 a0_5 a0_6 a0_7 a0_8 t164 t165 t166 t167 t168 _ A15.out).mono ?_); rintro e w19 ⟨rfl, hb⟩; have n0_ := Aside0.mk (blk_below (g := gb160) (by (with_reducible repeat (first | refine blk_drewN ?_ _ | refine blk_drew ?_ | refine blk_alloc ?_ _)); exact BK160.out) hb); have n1_ := Aside0.mk (below_step (by repeat (first | (with_reducible first | exact HB.out | apply below_alloc | apply pw_below_drewN | apply below_drew1 | refine below_set ?_ GE160.out) | exact HB.out)) hb); clear BK160; clear HB; have BK160 := n0_; have HB := n1_; clear n0_ n1_; (try clear hb)) | ((with_reducible refine gate_dst (N := 5) rfl ?_); refine box_event ?hg (N := 5) ?hd (cs := #[.int .i64 0, .int .i64 0, .int .i64 0, .int .i64 0]) (t := 35) ?hr ?_; (case hd => rfl); (case hg => rfl); (case hr => first | (go_simp; done) | (go_simp; rfl)); intro gb169 hg w20 hbox hb; have n0_ := Aside0.mk (blk_below (g := gb160) (by (with_reducible repeat (first | refine blk_drewN ?_ _ | refine blk_drew ?_ | refine blk_alloc ?_ _)); exact BK160.out) hb); have n1_ := Aside0.mk (below_step (by repeat (first | (with_reducible first | exact HB.out | apply below_alloc | apply pw_below_drewN | apply below_drew1 | refine below_set ?_ GE160.out) | exact HB.out)) hb); have n2_ := Aside0.mk (hbox); have n3_ := Aside0.mk ((by rw [hg]; exact (below_size (by repeat (first | (with_reducible first | exact HB.out | apply below_alloc | apply pw_below_drewN | apply below_drew1 | refine below_set ?_ GE160.out) | exact HB.out))) : w.heap.size ≤ gb169)); have n4_ := Aside0.mk ((by rw [hg]; exact (below_size (by repeat (first | (with_reducible first | exact HB.out | apply below_alloc | apply pw_below_drewN | apply below_drew1 | refine below_set ?_ GE160.out) | exact HB.out))) : w.heap.size ≤ gb169)); have n5_ := Aside0.mk ((by rw [hg]; exact Nat.ne_of_lt (blk_lt (g := gb160) (by (with_reducible repeat (first | refine blk_drewN ?_ _ | refine blk_drew ?_ | refine blk_alloc ?_ _)); exact BK160.out)) : gb160 ≠ gb169)); have n6_ := Aside0.mk ((by rw [hg]; exact Nat.ne_of_gt (blk_lt (g := gb160) (by (with_reducible repeat (first | refine blk_drewN ?_ _ | refine blk_drew ?_ | refine blk_alloc ?_ _)); exact BK160.out)) : gb169 ≠ gb160)); clear BK160; clear HB; have BK160 := n0_; have HB := n1_; have BK169 := n2_; have GW169 := n3_; have GE169 := n4_; have NB160_169 := n5_; have NB169_160 := n6_; clear n0_ n1_ n2_ n3_ n4_ n5_ n6_; clear hb hbox hg; have hnb21 := NB169_160.out; have hnc21 := NB160_169.out; obtain ⟨_, _, _, _⟩ := sq_cells4 BK169.out; obtain ⟨_, _, _, _⟩ := sq_free4 BK169.out; obtain ⟨_, _, _, _, _, _, _, _, _⟩ := sq_cells9 BK160.out; obtain ⟨_, _, _, _, _, _, _, _, _⟩ := sq_free9 BK160.out) | (go_at_call 15; (with_reducible refine (jacquardref24_Gcd.calls kj2 a0_0 a0_1 t170 _ A16.out).mono ?_); rintro e w' ⟨rfl, ⟨nd, rfl⟩⟩; (try first | exact ⟨rfl, _, World.drewN_drewN _ _ _⟩ | exact ⟨rfl, _, Eq.trans (World.drewN_drewN _ _ _) (congrArg (World.drewN _) (Nat.add_assoc _ _ _))⟩))); go_upto_region 5 with (first | (go_at_call 17; (with_reducible refine (diophant_All.calls kj2 a0_0 a0_1 a0_2 a0_3 a0_4 a0_5 a0_6 a0_7 a0_8 t164 t165 t166 t167 t168 _ A15.out).mono ?_); rintro e w19 ⟨rfl, hb⟩; have n0_ := Aside0.mk (blk_below (g := gb160) (by (with_reducible repeat (first | refine blk_drewN ?_ _ | refine blk_drew ?_ | refine blk_alloc ?_ _)); exact BK160.out) hb); have n1_ := Aside0.mk (below_step (by repeat (first | (with_reducible first | exact HB.out | apply below_alloc | apply pw_below_drewN | apply below_drew1 | refine below_set ?_ GE160.out) | exact HB.out)) hb); clear BK160; clear HB; have BK160 := n0_; have HB := n1_; clear n0_ n1_; (try clear hb)) | ((with_reducible refine gate_dst (N := 5) rfl ?_); refine box_event ?hg (N := 5) ?hd (cs := #[.int .i64 0, .int .i64 0, .int .i64 0, .int .i64 0]) (t := 35) ?hr ?_; (case hd => rfl); (case hg => rfl); (case hr => first | (go_simp; done) | (go_simp; rfl)); intro gb169 hg w20 hbox hb; have n0_ := Aside0.mk (blk_below (g := gb160) (by (with_reducible repeat (first | refine blk_drewN ?_ _ | refine blk_drew ?_ | refine blk_alloc ?_ _)); exact BK160.out) hb); have n1_ := Aside0.mk (below_step (by repeat (first | (with_reducible first | exact HB.out | apply below_alloc | apply pw_below_drewN | apply below_drew1 | refine below_set ?_ GE160.out) | exact HB.out)) hb); have n2_ := Aside0.mk (hbox); have n3_ := Aside0.mk ((by rw [hg]; exact (below_size (by repeat (first | (with_reducible first | exact HB.out | apply below_alloc | apply pw_below_drewN | apply below_drew1 | refine below_set ?_ GE160.out) | exact HB.out))) : w.heap.size ≤ gb169)); have n4_ := Aside0.mk ((by rw [hg]; exact (below_size (by repeat (first | (with_reducible first | exact HB.out | apply below_alloc | apply pw_below_drewN | apply below_drew1 | refine below_set ?_ GE160.out) | exact HB.out))) : w.heap.size ≤ gb169)); have n5_ := Aside0.mk ((by rw [hg]; exact Nat.ne_of_lt (blk_lt (g := gb160) (by (with_reducible repeat (first | refine blk_drewN ?_ _ | refine blk_drew ?_ | refine blk_alloc ?_ _)); exact BK160.out)) : gb160 ≠ gb169)); have n6_ := Aside0.mk ((by rw [hg]; exact Nat.ne_of_gt (blk_lt (g := gb160) (by (with_reducible repeat (first | refine blk_drewN ?_ _ | refine blk_drew ?_ | refine blk_alloc ?_ _)); exact BK160.out)) : gb169 ≠ gb160)); clear BK160; clear HB; have BK160 := n0_; have HB := n1_; have BK169 := n2_; have GW169 := n3_; have GE169 := n4_; have NB160_169 := n5_; have NB169_160 := n6_; clear n0_ n1_ n2_ n3_ n4_ n5_ n6_; clear hb hbox hg; have hnb21 := NB169_160.out; have hnc21 := NB160_169.out; obtain ⟨_, _, _, _⟩ := sq_cells4 BK169.out; obtain ⟨_, _, _, _⟩ := sq_free4 BK169.out; obtain ⟨_, _, _, _, _, _, _, _, _⟩ := sq_cells9 BK160.out; obtain ⟨_, _, _, _, _, _, _, _, _⟩ := sq_free9 BK160.out) | (go_at_call 15; (with_reducible refine (jacquardref24_Gcd.calls kj2 a0_0 a0_1 t170 _ A16.out).mono ?_); rintro e w' ⟨rfl, ⟨nd, rfl⟩⟩; (try first | exact ⟨rfl, _, World.drewN_drewN _ _ _⟩ | exact ⟨rfl, _, Eq.trans (World.drewN_drewN _ _ _) (congrArg (World.drewN _) (Nat.add_assoc _ _ _))⟩))))
        (try simp only [Act.put, List.setIfInBounds_toArray, List.set_cons_zero, List.set_cons_succ])
        go_cut [35] (fun v35 wc => ∃ (kq : Nat) (x35_16 : Bool), v35 = .bool x35_16 ∧ Aside0 (jacquardlaw24_DiophantLines.j1 kq a1 t168 t170 x35_16 a0_0 a0_1 a0_2 a0_3 a0_4 a0_5 a0_6 a0_7 a0_8 t164 t165 t166 t167 = some r) ∧ Aside0 (kq ≤ kj2) ∧ Aside0 (wc.heap[gb160]? = some (.cells #[.int .i64 a0_0, .int .i64 a0_1, .int .i64 a0_2, .int .i64 a0_3, .int .i64 a0_4, .int .i64 a0_5, .int .i64 a0_6, .int .i64 a0_7, .int .i64 a0_8] 31 (0, 0))) ∧ Aside0 (wc.heap[gb169]? = some (.cells #[.int .i64 t164, .int .i64 t165, .int .i64 t166, .int .i64 t167] 35 (0, 0))) ∧ Aside0 (Below w.heap.size w wc))
        case first =>
          have H := HC17.out
          clear HC17
          by_cases c24 : t170 = 0
          · rw [if_pos c24] at H
            have c24b0 : (t170 == 0) = true := beq_iff_eq.mpr c24
            have c24b1 : (t170 != 0) = false := bne_eq_false_iff_eq.mpr c24
            clear c24
            (first | rw [c24b0] | (simp only [i64_w, i32_w]; rw [c24b0]) | skip)
            have H' := Aside0.mk H
            clear H
            go_wp2
            repeat (go_quiet (fail); try go_wp2)
            go_meet
            case rel => exact ⟨_, (true), (by first | rfl | (simp; done) | (simp [*]; done)), H', ⟨by have := HJ2.out; first | omega | exact Nat.le_refl _⟩, ⟨by (iterate 4 ((with_reducible repeat (first | refine blk_drewN ?_ _ | refine blk_drew ?_ | refine blk_alloc ?_ _)); refine blk_far ?_ NB160_169.out _)); (with_reducible repeat (first | refine blk_drewN ?_ _ | refine blk_drew ?_ | refine blk_alloc ?_ _)); exact BK160.out⟩, ⟨by (with_reducible repeat (first | refine blk_drewN ?_ _ | refine blk_drew ?_ | refine blk_alloc ?_ _)); exact sq_put4 BK169.out⟩, ⟨by repeat (first | (with_reducible first | exact HB.out | apply below_alloc | apply pw_below_drewN | apply below_drew1 | refine below_set ?_ GE160.out | refine below_set ?_ GE169.out) | exact HB.out)⟩⟩
          · rw [if_neg c24] at H
            have c24b0 : (t170 == 0) = false := beq_eq_false_iff_ne.mpr c24
            have c24b1 : (t170 != 0) = true := bne_iff_ne.mpr c24
            (first | rw [c24b0] | (simp only [i64_w, i32_w]; rw [c24b0]) | skip)
            have H' := Aside0.mk H
            clear H
            have hnb25 := NB160_169.out
            have hnc25 := NB169_160.out
            obtain ⟨_, _, _, _, _, _, _, _, _⟩ := sq_cells9 BK160.out
            obtain ⟨_, _, _, _, _, _, _, _, _⟩ := sq_free9 BK160.out
            go_wp2
            repeat (go_quiet (fail); try go_wp2)
            go_meet
            case rel => exact ⟨_, (((Int.tmod a0_2 t170) != 0)), (by first | rfl | (simp; done) | (simp [*]; done)), H', ⟨by have := HJ2.out; first | omega | exact Nat.le_refl _⟩, ⟨by (iterate 4 ((with_reducible repeat (first | refine blk_drewN ?_ _ | refine blk_drew ?_ | refine blk_alloc ?_ _)); refine blk_far ?_ NB160_169.out _)); (with_reducible repeat (first | refine blk_drewN ?_ _ | refine blk_drew ?_ | refine blk_alloc ?_ _)); exact BK160.out⟩, ⟨by (with_reducible repeat (first | refine blk_drewN ?_ _ | refine blk_drew ?_ | refine blk_alloc ?_ _)); exact sq_put4 BK169.out⟩, ⟨by repeat (first | (with_reducible first | exact HB.out | apply below_alloc | apply pw_below_drewN | apply below_drew1 | refine below_set ?_ GE160.out | refine below_set ?_ GE169.out) | exact HB.out)⟩⟩
        case rest =>
          clear HC17
          try clear c1
          try clear c2
          try clear p2
          try clear c4
          try clear c6
          try clear c12
          try clear c21
          try clear c24
          try clear c24b0
          try clear c24b1
          try clear c25
          try clear hcz18_0
          try clear hcz18_1
          try clear hcz18_2
          try clear hcz18_3
          try clear hcz18_4
          try clear hcz18_5
          try clear hcz18_6
          try clear hcz18_7
          try clear hcz18_8
          try clear hcz22_0
          try clear hcz22_1
          try clear hcz22_2
          try clear hcz22_3
          try clear hcz23_0
          try clear hcz23_1
          try clear hcz23_2
          try clear hcz23_3
          try clear hcz23_4
          try clear hcz23_5
          try clear hcz23_6
          try clear hcz23_7
          try clear hcz23_8
          try clear hcz26_0
          try clear hcz26_1
          try clear hcz26_2
          try clear hcz26_3
          try clear hcz26_4
          try clear hcz26_5
          try clear hcz26_6
          try clear hcz26_7
          try clear hcz26_8
          try clear hcz9_0
          try clear hcz9_1
          try clear hcz9_2
          try clear hcz9_3
          try clear hcz9_4
          try clear hcz9_5
          try clear hcz9_6
          try clear hcz9_7
          try clear hcz9_8
          try clear hfz18_0
          try clear hfz18_1
          try clear hfz18_2
          try clear hfz18_3
          try clear hfz18_4
          try clear hfz18_5
          try clear hfz18_6
          try clear hfz18_7
          try clear hfz18_8
          try clear hfz22_0
          try clear hfz22_1
          try clear hfz22_2
          try clear hfz22_3
          try clear hfz23_0
          try clear hfz23_1
          try clear hfz23_2
          try clear hfz23_3
          try clear hfz23_4
          try clear hfz23_5
          try clear hfz23_6
          try clear hfz23_7
          try clear hfz23_8
          try clear hfz26_0
          try clear hfz26_1
          try clear hfz26_2
          try clear hfz26_3
          try clear hfz26_4
          try clear hfz26_5
          try clear hfz26_6
          try clear hfz26_7
          try clear hfz26_8
          try clear hfz9_0
          try clear hfz9_1
          try clear hfz9_2
          try clear hfz9_3
          try clear hfz9_4
          try clear hfz9_5
          try clear hfz9_6
          try clear hfz9_7
          try clear hfz9_8
          try clear p2
          obtain ⟨kq, x35_16, rfl, HA, HJ16, BK160, BK169, HB⟩ := hcut
          cases kq with
          | zero => exact absurd HA.out (by simp [jacquardlaw24_DiophantLines.j1])
          | succ kj16 =>
            have H := HA.out
            clear HA
            simp only [jacquardlaw24_DiophantLines.j1] at H
            by_cases c27 : x35_16 = true
            · subst c27
              have H1 : (if t168 = true then (some false) else (some (t164 == 0 && (t165 == 0 && (t166 == 0 && (t167 == 0)))))) = some r := by rw [if_pos rfl] at H; exact H
              clear H
              have H := H1
              clear H1
              by_cases c28 : t168 = true
              · subst c28
                have H1 : (some false) = some r := by rw [if_pos rfl] at H; exact H
                clear H
                have H := H1
                clear H1
                obtain rfl := Option.some.inj H
                go_wp2
                repeat (go_quiet (fail); try go_wp2)
                go_ret
                exact ⟨by first | rfl | (simp [errW_none, errW_some] <;> rfl) | (simp [*, errW_none, errW_some] <;> rfl), by repeat (first | (with_reducible first | exact HB.out | apply below_alloc | apply pw_below_drewN | apply below_drew1 | refine below_set ?_ GE160.out | refine below_set ?_ GE169.out) | exact HB.out)⟩
              · replace c28 := Bool.eq_false_iff.mpr c28
                subst c28
                have H1 : (some (t164 == 0 && (t165 == 0 && (t166 == 0 && (t167 == 0))))) = some r := by rw [if_neg (show ¬ (false = true) by decide)] at H; exact H
                clear H
                have H := H1
                clear H1
                obtain rfl := Option.some.inj H
                have hnb29 := NB169_160.out
                have hnc29 := NB160_169.out
                obtain ⟨_, _, _, _⟩ := sq_cells4 BK169.out
                obtain ⟨_, _, _, _⟩ := sq_free4 BK169.out
                go_wp2
                repeat (go_quiet (fail); try go_wp2)
                go_ret
                exact ⟨by first | rfl | (simp [errW_none, errW_some] <;> rfl) | (simp [*, errW_none, errW_some] <;> rfl), by repeat (first | (with_reducible first | exact HB.out | apply below_alloc | apply pw_below_drewN | apply below_drew1 | refine below_set ?_ GE160.out | refine below_set ?_ GE169.out) | exact HB.out)⟩
            · replace c27 := Bool.eq_false_iff.mpr c27
              subst c27
              have H1 : (if t168 = true then (if a0_1 = 0 then (if a0_0 = 0 then (none) else (some (t164 == (wrap64 (Int.tdiv a0_2 a0_0)) && (t165 == 0 && (t166 == 0 && (t167 == 1)))))) else (if t164 < 0 then (some false) else (if t164 ≥ t166 then (some false) else ((jacquardref24_Abs.f a0_1).bind fun t171 => (if t170 = 0 then (none) else (if t166 = (wrap64 (Int.tdiv t171 t170)) then (if (wrap64 ((wrap64 (a0_0 * t166)) + (wrap64 (a0_1 * t167)))) = 0 then (if (Int.tmod (wrap64 (a0_2 - (wrap64 (a0_0 * t164)))) a0_1) = 0 then (if t165 = (wrap64 (Int.tdiv (wrap64 (a0_2 - (wrap64 (a0_0 * t164)))) a0_1)) then (some ((wrap64 ((wrap64 (a0_0 * (wrap64 ((Int.tmod (wrap64 (a1)) 1000) * t166)))) + (wrap64 (a0_1 * (wrap64 ((Int.tmod (wrap64 (a1)) 1000) * t167)))))) == 0)) else (some false)) else (some false)) else (some false)) else (some false))))))) else (some false)) = some r := by rw [if_neg (show ¬ (false = true) by decide)] at H; exact H
              clear H
              have H := H1
              clear H1
              by_cases c31 : t168 = true
              · subst c31
                have H1 : (if a0_1 = 0 then (if a0_0 = 0 then (none) else (some (t164 == (wrap64 (Int.tdiv a0_2 a0_0)) && (t165 == 0 && (t166 == 0 && (t167 == 1)))))) else (if t164 < 0 then (some false) else (if t164 ≥ t166 then (some false) else ((jacquardref24_Abs.f a0_1).bind fun t171 => (if t170 = 0 then (none) else (if t166 = (wrap64 (Int.tdiv t171 t170)) then (if (wrap64 ((wrap64 (a0_0 * t166)) + (wrap64 (a0_1 * t167)))) = 0 then (if (Int.tmod (wrap64 (a0_2 - (wrap64 (a0_0 * t164)))) a0_1) = 0 then (if t165 = (wrap64 (Int.tdiv (wrap64 (a0_2 - (wrap64 (a0_0 * t164)))) a0_1)) then (some ((wrap64 ((wrap64 (a0_0 * (wrap64 ((Int.tmod (wrap64 (a1)) 1000) * t166)))) + (wrap64 (a0_1 * (wrap64 ((Int.tmod (wrap64 (a1)) 1000) * t167)))))) == 0)) else (some false)) else (some false)) else (some false)) else (some false))))))) = some r := by rw [if_pos rfl] at H; exact H
                clear H
                have H := H1
                clear H1
                by_cases c32 : a0_1 = 0
                · rw [if_pos c32] at H
                  have c32b0 : (a0_1 == 0) = true := beq_iff_eq.mpr c32
                  have c32b1 : (a0_1 != 0) = false := bne_eq_false_iff_eq.mpr c32
                  clear c32
                  by_cases c33 : a0_0 = 0
                  · rw [if_pos c33] at H
                    exact absurd H (by simp)
                  · rw [if_neg c33] at H
                    have c33b0 : (a0_0 == 0) = false := beq_eq_false_iff_ne.mpr c33
                    have c33b1 : (a0_0 != 0) = true := bne_iff_ne.mpr c33
                    obtain rfl := Option.some.inj H
                    have hnb34 := NB160_169.out
                    have hnc34 := NB169_160.out
                    obtain ⟨_, _, _, _, _, _, _, _, _⟩ := sq_cells9 BK160.out
                    obtain ⟨_, _, _, _, _, _, _, _, _⟩ := sq_free9 BK160.out
                    obtain ⟨_, _, _, _⟩ := sq_cells4 BK169.out
                    obtain ⟨_, _, _, _⟩ := sq_free4 BK169.out
                    go_wp2
                    repeat (go_quiet (fail); try go_wp2)
                    go_ret
                    exact ⟨by first | rfl | (simp [errW_none, errW_some] <;> rfl) | (simp [*, errW_none, errW_some] <;> rfl), by repeat (first | (with_reducible first | exact HB.out | apply below_alloc | apply pw_below_drewN | apply below_drew1 | refine below_set ?_ GE160.out | refine below_set ?_ GE169.out) | exact HB.out)⟩
                · rw [if_neg c32] at H
                  have c32b0 : (a0_1 == 0) = false := beq_eq_false_iff_ne.mpr c32
                  have c32b1 : (a0_1 != 0) = true := bne_iff_ne.mpr c32
                  by_cases c37 : t164 < 0
                  · rw [if_pos c37] at H
                    have c37b0 : decide (t164 < 0) = true := decide_eq_true c37
                    clear c37
                    obtain rfl := Option.some.inj H
                    have hnb38 := NB160_169.out
                    have hnc38 := NB169_160.out
                    obtain ⟨_, _, _, _, _, _, _, _, _⟩ := sq_cells9 BK160.out
                    obtain ⟨_, _, _, _, _, _, _, _, _⟩ := sq_free9 BK160.out
                    obtain ⟨_, _, _, _⟩ := sq_cells4 BK169.out
                    obtain ⟨_, _, _, _⟩ := sq_free4 BK169.out
                    go_wp2
                    repeat (go_quiet (fail); try go_wp2)
                    go_ret
                    exact ⟨by first | rfl | (simp [errW_none, errW_some] <;> rfl) | (simp [*, errW_none, errW_some] <;> rfl), by repeat (first | (with_reducible first | exact HB.out | apply below_alloc | apply pw_below_drewN | apply below_drew1 | refine below_set ?_ GE160.out | refine below_set ?_ GE169.out) | exact HB.out)⟩
                  · rw [if_neg c37] at H
                    have c37b0 : decide (t164 < 0) = false := decide_eq_false c37
                    clear c37
                    by_cases c41 : t164 ≥ t166
                    · rw [if_pos c41] at H
                      have c41b0 : decide (t166 ≤ t164) = true := decide_eq_true c41
                      clear c41
                      obtain rfl := Option.some.inj H
                      have hnb42 := NB160_169.out
                      have hnc42 := NB169_160.out
                      obtain ⟨_, _, _, _, _, _, _, _, _⟩ := sq_cells9 BK160.out
                      obtain ⟨_, _, _, _, _, _, _, _, _⟩ := sq_free9 BK160.out
                      obtain ⟨_, _, _, _⟩ := sq_cells4 BK169.out
                      obtain ⟨_, _, _, _⟩ := sq_free4 BK169.out
                      go_wp2
                      repeat (go_quiet (fail); try go_wp2)
                      go_ret
                      exact ⟨by first | rfl | (simp [errW_none, errW_some] <;> rfl) | (simp [*, errW_none, errW_some] <;> rfl), by repeat (first | (with_reducible first | exact HB.out | apply below_alloc | apply pw_below_drewN | apply below_drew1 | refine below_set ?_ GE160.out | refine below_set ?_ GE169.out) | exact HB.out)⟩
                    · rw [if_neg c41] at H
                      have c41b0 : decide (t166 ≤ t164) = false := decide_eq_false c41
                      clear c41
                      replace H := Option.bind_eq_some_iff.mp H
                      obtain ⟨t171, A450, H⟩ := H
                      replace H : (if t170 = 0 then (none) else (if t166 = (wrap64 (Int.tdiv t171 t170)) then (if (wrap64 ((wrap64 (a0_0 * t166)) + (wrap64 (a0_1 * t167)))) = 0 then (if (Int.tmod (wrap64 (a0_2 - (wrap64 (a0_0 * t164)))) a0_1) = 0 then (if t165 = (wrap64 (Int.tdiv (wrap64 (a0_2 - (wrap64 (a0_0 * t164)))) a0_1)) then (some ((wrap64 ((wrap64 (a0_0 * (wrap64 ((Int.tmod (wrap64 (a1)) 1000) * t166)))) + (wrap64 (a0_1 * (wrap64 ((Int.tmod (wrap64 (a1)) 1000) * t167)))))) == 0)) else (some false)) else (some false)) else (some false)) else (some false))) = some r := H
                      have A45 := Aside0.mk A450
                      clear A450
                      by_cases c46 : t170 = 0
                      · rw [if_pos c46] at H
                        exact absurd H (by simp)
                      · rw [if_neg c46] at H
                        have c46b0 : (t170 == 0) = false := beq_eq_false_iff_ne.mpr c46
                        have c46b1 : (t170 != 0) = true := bne_iff_ne.mpr c46
                        by_cases c47 : t166 = (wrap64 (Int.tdiv t171 t170))
                        · rw [if_pos c47] at H
                          have c47b0 : (t166 == (wrap64 (Int.tdiv t171 t170))) = true := beq_iff_eq.mpr c47
                          have c47b1 : (t166 != (wrap64 (Int.tdiv t171 t170))) = false := bne_eq_false_iff_eq.mpr c47
                          clear c47
                          by_cases c48 : (wrap64 ((wrap64 (a0_0 * t166)) + (wrap64 (a0_1 * t167)))) = 0
                          · rw [if_pos c48] at H
                            have c48b0 : ((wrap64 ((wrap64 (a0_0 * t166)) + (wrap64 (a0_1 * t167)))) == 0) = true := beq_iff_eq.mpr c48
                            have c48b1 : ((wrap64 ((wrap64 (a0_0 * t166)) + (wrap64 (a0_1 * t167)))) != 0) = false := bne_eq_false_iff_eq.mpr c48
                            clear c48
                            by_cases c49 : (Int.tmod (wrap64 (a0_2 - (wrap64 (a0_0 * t164)))) a0_1) = 0
                            · rw [if_pos c49] at H
                              have c49b0 : ((Int.tmod (wrap64 (a0_2 - (wrap64 (a0_0 * t164)))) a0_1) == 0) = true := beq_iff_eq.mpr c49
                              have c49b1 : ((Int.tmod (wrap64 (a0_2 - (wrap64 (a0_0 * t164)))) a0_1) != 0) = false := bne_eq_false_iff_eq.mpr c49
                              clear c49
                              by_cases c50 : t165 = (wrap64 (Int.tdiv (wrap64 (a0_2 - (wrap64 (a0_0 * t164)))) a0_1))
                              · rw [if_pos c50] at H
                                have c50b0 : (t165 == (wrap64 (Int.tdiv (wrap64 (a0_2 - (wrap64 (a0_0 * t164)))) a0_1))) = true := beq_iff_eq.mpr c50
                                have c50b1 : (t165 != (wrap64 (Int.tdiv (wrap64 (a0_2 - (wrap64 (a0_0 * t164)))) a0_1))) = false := bne_eq_false_iff_eq.mpr c50
                                clear c50
                                obtain rfl := Option.some.inj H
                                have hnb51 := NB160_169.out
                                have hnc51 := NB169_160.out
                                obtain ⟨_, _, _, _, _, _, _, _, _⟩ := sq_cells9 BK160.out
                                obtain ⟨_, _, _, _, _, _, _, _, _⟩ := sq_free9 BK160.out
                                obtain ⟨_, _, _, _⟩ := sq_cells4 BK169.out
                                obtain ⟨_, _, _, _⟩ := sq_free4 BK169.out
                                go_wp2_with (first | (go_at_call 14; (with_reducible refine (jacquardref24_Abs.calls a0_1 t171 _ A45.out).mono ?_); rintro e w' ⟨rfl, ⟨nd, rfl⟩⟩; (try first | exact ⟨rfl, _, World.drewN_drewN _ _ _⟩ | exact ⟨rfl, _, Eq.trans (World.drewN_drewN _ _ _) (congrArg (World.drewN _) (Nat.add_assoc _ _ _))⟩)))
                                repeat (go_quiet (first | (go_at_call 14; (with_reducible refine (jacquardref24_Abs.calls a0_1 t171 _ A45.out).mono ?_); rintro e w' ⟨rfl, ⟨nd, rfl⟩⟩; (try first | exact ⟨rfl, _, World.drewN_drewN _ _ _⟩ | exact ⟨rfl, _, Eq.trans (World.drewN_drewN _ _ _) (congrArg (World.drewN _) (Nat.add_assoc _ _ _))⟩))); try go_wp2_with (first | (go_at_call 14; (with_reducible refine (jacquardref24_Abs.calls a0_1 t171 _ A45.out).mono ?_); rintro e w' ⟨rfl, ⟨nd, rfl⟩⟩; (try first | exact ⟨rfl, _, World.drewN_drewN _ _ _⟩ | exact ⟨rfl, _, Eq.trans (World.drewN_drewN _ _ _) (congrArg (World.drewN _) (Nat.add_assoc _ _ _))⟩))))
                                go_ret
                                exact ⟨by first | rfl | (simp [errW_none, errW_some] <;> rfl) | (simp [*, errW_none, errW_some] <;> rfl), by repeat (first | (with_reducible first | exact HB.out | apply below_alloc | apply pw_below_drewN | apply below_drew1 | refine below_set ?_ GE160.out | refine below_set ?_ GE169.out) | exact HB.out)⟩
                              · rw [if_neg c50] at H
                                have c50b0 : (t165 == (wrap64 (Int.tdiv (wrap64 (a0_2 - (wrap64 (a0_0 * t164)))) a0_1))) = false := beq_eq_false_iff_ne.mpr c50
                                have c50b1 : (t165 != (wrap64 (Int.tdiv (wrap64 (a0_2 - (wrap64 (a0_0 * t164)))) a0_1))) = true := bne_iff_ne.mpr c50
                                obtain rfl := Option.some.inj H
                                have hnb54 := NB160_169.out
                                have hnc54 := NB169_160.out
                                obtain ⟨_, _, _, _, _, _, _, _, _⟩ := sq_cells9 BK160.out
                                obtain ⟨_, _, _, _, _, _, _, _, _⟩ := sq_free9 BK160.out
                                obtain ⟨_, _, _, _⟩ := sq_cells4 BK169.out
                                obtain ⟨_, _, _, _⟩ := sq_free4 BK169.out
                                go_wp2_with (first | (go_at_call 14; (with_reducible refine (jacquardref24_Abs.calls a0_1 t171 _ A45.out).mono ?_); rintro e w' ⟨rfl, ⟨nd, rfl⟩⟩; (try first | exact ⟨rfl, _, World.drewN_drewN _ _ _⟩ | exact ⟨rfl, _, Eq.trans (World.drewN_drewN _ _ _) (congrArg (World.drewN _) (Nat.add_assoc _ _ _))⟩)))
                                repeat (go_quiet (first | (go_at_call 14; (with_reducible refine (jacquardref24_Abs.calls a0_1 t171 _ A45.out).mono ?_); rintro e w' ⟨rfl, ⟨nd, rfl⟩⟩; (try first | exact ⟨rfl, _, World.drewN_drewN _ _ _⟩ | exact ⟨rfl, _, Eq.trans (World.drewN_drewN _ _ _) (congrArg (World.drewN _) (Nat.add_assoc _ _ _))⟩))); try go_wp2_with (first | (go_at_call 14; (with_reducible refine (jacquardref24_Abs.calls a0_1 t171 _ A45.out).mono ?_); rintro e w' ⟨rfl, ⟨nd, rfl⟩⟩; (try first | exact ⟨rfl, _, World.drewN_drewN _ _ _⟩ | exact ⟨rfl, _, Eq.trans (World.drewN_drewN _ _ _) (congrArg (World.drewN _) (Nat.add_assoc _ _ _))⟩))))
                                go_ret
                                exact ⟨by first | rfl | (simp [errW_none, errW_some] <;> rfl) | (simp [*, errW_none, errW_some] <;> rfl), by repeat (first | (with_reducible first | exact HB.out | apply below_alloc | apply pw_below_drewN | apply below_drew1 | refine below_set ?_ GE160.out | refine below_set ?_ GE169.out) | exact HB.out)⟩
                            · rw [if_neg c49] at H
                              have c49b0 : ((Int.tmod (wrap64 (a0_2 - (wrap64 (a0_0 * t164)))) a0_1) == 0) = false := beq_eq_false_iff_ne.mpr c49
                              have c49b1 : ((Int.tmod (wrap64 (a0_2 - (wrap64 (a0_0 * t164)))) a0_1) != 0) = true := bne_iff_ne.mpr c49
                              obtain rfl := Option.some.inj H
                              have hnb57 := NB160_169.out
                              have hnc57 := NB169_160.out
                              obtain ⟨_, _, _, _, _, _, _, _, _⟩ := sq_cells9 BK160.out
                              obtain ⟨_, _, _, _, _, _, _, _, _⟩ := sq_free9 BK160.out
                              obtain ⟨_, _, _, _⟩ := sq_cells4 BK169.out
                              obtain ⟨_, _, _, _⟩ := sq_free4 BK169.out
                              go_wp2_with (first | (go_at_call 14; (with_reducible refine (jacquardref24_Abs.calls a0_1 t171 _ A45.out).mono ?_); rintro e w' ⟨rfl, ⟨nd, rfl⟩⟩; (try first | exact ⟨rfl, _, World.drewN_drewN _ _ _⟩ | exact ⟨rfl, _, Eq.trans (World.drewN_drewN _ _ _) (congrArg (World.drewN _) (Nat.add_assoc _ _ _))⟩)))
                              repeat (go_quiet (first | (go_at_call 14; (with_reducible refine (jacquardref24_Abs.calls a0_1 t171 _ A45.out).mono ?_); rintro e w' ⟨rfl, ⟨nd, rfl⟩⟩; (try first | exact ⟨rfl, _, World.drewN_drewN _ _ _⟩ | exact ⟨rfl, _, Eq.trans (World.drewN_drewN _ _ _) (congrArg (World.drewN _) (Nat.add_assoc _ _ _))⟩))); try go_wp2_with (first | (go_at_call 14; (with_reducible refine (jacquardref24_Abs.calls a0_1 t171 _ A45.out).mono ?_); rintro e w' ⟨rfl, ⟨nd, rfl⟩⟩; (try first | exact ⟨rfl, _, World.drewN_drewN _ _ _⟩ | exact ⟨rfl, _, Eq.trans (World.drewN_drewN _ _ _) (congrArg (World.drewN _) (Nat.add_assoc _ _ _))⟩))))
                              go_ret
                              exact ⟨by first | rfl | (simp [errW_none, errW_some] <;> rfl) | (simp [*, errW_none, errW_some] <;> rfl), by repeat (first | (with_reducible first | exact HB.out | apply below_alloc | apply pw_below_drewN | apply below_drew1 | refine below_set ?_ GE160.out | refine below_set ?_ GE169.out) | exact HB.out)⟩
                          · rw [if_neg c48] at H
                            have c48b0 : ((wrap64 ((wrap64 (a0_0 * t166)) + (wrap64 (a0_1 * t167)))) == 0) = false := beq_eq_false_iff_ne.mpr c48
                            have c48b1 : ((wrap64 ((wrap64 (a0_0 * t166)) + (wrap64 (a0_1 * t167)))) != 0) = true := bne_iff_ne.mpr c48
                            obtain rfl := Option.some.inj H
                            have hnb60 := NB160_169.out
                            have hnc60 := NB169_160.out
                            obtain ⟨_, _, _, _, _, _, _, _, _⟩ := sq_cells9 BK160.out
                            obtain ⟨_, _, _, _, _, _, _, _, _⟩ := sq_free9 BK160.out
                            obtain ⟨_, _, _, _⟩ := sq_cells4 BK169.out
                            obtain ⟨_, _, _, _⟩ := sq_free4 BK169.out
                            go_wp2_with (first | (go_at_call 14; (with_reducible refine (jacquardref24_Abs.calls a0_1 t171 _ A45.out).mono ?_); rintro e w' ⟨rfl, ⟨nd, rfl⟩⟩; (try first | exact ⟨rfl, _, World.drewN_drewN _ _ _⟩ | exact ⟨rfl, _, Eq.trans (World.drewN_drewN _ _ _) (congrArg (World.drewN _) (Nat.add_assoc _ _ _))⟩)))
                            repeat (go_quiet (first | (go_at_call 14; (with_reducible refine (jacquardref24_Abs.calls a0_1 t171 _ A45.out).mono ?_); rintro e w' ⟨rfl, ⟨nd, rfl⟩⟩; (try first | exact ⟨rfl, _, World.drewN_drewN _ _ _⟩ | exact ⟨rfl, _, Eq.trans (World.drewN_drewN _ _ _) (congrArg (World.drewN _) (Nat.add_assoc _ _ _))⟩))); try go_wp2_with (first | (go_at_call 14; (with_reducible refine (jacquardref24_Abs.calls a0_1 t171 _ A45.out).mono ?_); rintro e w' ⟨rfl, ⟨nd, rfl⟩⟩; (try first | exact ⟨rfl, _, World.drewN_drewN _ _ _⟩ | exact ⟨rfl, _, Eq.trans (World.drewN_drewN _ _ _) (congrArg (World.drewN _) (Nat.add_assoc _ _ _))⟩))))
                            go_ret
                            exact ⟨by first | rfl | (simp [errW_none, errW_some] <;> rfl) | (simp [*, errW_none, errW_some] <;> rfl), by repeat (first | (with_reducible first | exact HB.out | apply below_alloc | apply pw_below_drewN | apply below_drew1 | refine below_set ?_ GE160.out | refine below_set ?_ GE169.out) | exact HB.out)⟩
                        · rw [if_neg c47] at H
                          have c47b0 : (t166 == (wrap64 (Int.tdiv t171 t170))) = false := beq_eq_false_iff_ne.mpr c47
                          have c47b1 : (t166 != (wrap64 (Int.tdiv t171 t170))) = true := bne_iff_ne.mpr c47
                          obtain rfl := Option.some.inj H
                          have hnb63 := NB160_169.out
                          have hnc63 := NB169_160.out
                          obtain ⟨_, _, _, _, _, _, _, _, _⟩ := sq_cells9 BK160.out
                          obtain ⟨_, _, _, _, _, _, _, _, _⟩ := sq_free9 BK160.out
                          obtain ⟨_, _, _, _⟩ := sq_cells4 BK169.out
                          obtain ⟨_, _, _, _⟩ := sq_free4 BK169.out
                          go_wp2_with (first | (go_at_call 14; (with_reducible refine (jacquardref24_Abs.calls a0_1 t171 _ A45.out).mono ?_); rintro e w' ⟨rfl, ⟨nd, rfl⟩⟩; (try first | exact ⟨rfl, _, World.drewN_drewN _ _ _⟩ | exact ⟨rfl, _, Eq.trans (World.drewN_drewN _ _ _) (congrArg (World.drewN _) (Nat.add_assoc _ _ _))⟩)))
                          repeat (go_quiet (first | (go_at_call 14; (with_reducible refine (jacquardref24_Abs.calls a0_1 t171 _ A45.out).mono ?_); rintro e w' ⟨rfl, ⟨nd, rfl⟩⟩; (try first | exact ⟨rfl, _, World.drewN_drewN _ _ _⟩ | exact ⟨rfl, _, Eq.trans (World.drewN_drewN _ _ _) (congrArg (World.drewN _) (Nat.add_assoc _ _ _))⟩))); try go_wp2_with (first | (go_at_call 14; (with_reducible refine (jacquardref24_Abs.calls a0_1 t171 _ A45.out).mono ?_); rintro e w' ⟨rfl, ⟨nd, rfl⟩⟩; (try first | exact ⟨rfl, _, World.drewN_drewN _ _ _⟩ | exact ⟨rfl, _, Eq.trans (World.drewN_drewN _ _ _) (congrArg (World.drewN _) (Nat.add_assoc _ _ _))⟩))))
                          go_ret
                          exact ⟨by first | rfl | (simp [errW_none, errW_some] <;> rfl) | (simp [*, errW_none, errW_some] <;> rfl), by repeat (first | (with_reducible first | exact HB.out | apply below_alloc | apply pw_below_drewN | apply below_drew1 | refine below_set ?_ GE160.out | refine below_set ?_ GE169.out) | exact HB.out)⟩
              · replace c31 := Bool.eq_false_iff.mpr c31
                subst c31
                have H1 : (some false) = some r := by rw [if_neg (show ¬ (false = true) by decide)] at H; exact H
                clear H
                have H := H1
                clear H1
                obtain rfl := Option.some.inj H
                go_wp2
                repeat (go_quiet (fail); try go_wp2)
                go_ret
                exact ⟨by first | rfl | (simp [errW_none, errW_some] <;> rfl) | (simp [*, errW_none, errW_some] <;> rfl), by repeat (first | (with_reducible first | exact HB.out | apply below_alloc | apply pw_below_drewN | apply below_drew1 | refine below_set ?_ GE160.out | refine below_set ?_ GE169.out) | exact HB.out)⟩

end Go.Proofs.Ytpfkhinbehegbaa.X
