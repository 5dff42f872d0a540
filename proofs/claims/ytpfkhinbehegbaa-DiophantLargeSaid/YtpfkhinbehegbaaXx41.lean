-- Written by xprint.py for this claim.
import Derived.Test.YtpfkhinbehegbaaXx0
import Derived.Test.YtpfkhinbehegbaaXx14
import Derived.Test.YtpfkhinbehegbaaXx15
import Derived.Test.YtpfkhinbehegbaaXx21
import Derived.Test.YtpfkhinbehegbaaXx23
import Derived.Test.YtpfkhinbehegbaaXx26
import Derived.Test.YtpfkhinbehegbaaXx31
import Derived.Test.YtpfkhinbehegbaaXx38
namespace Go.Proofs.Ytpfkhinbehegbaa.X
open Go.RowKit Go.Proofs.YtpfkhinbehegbaaW.PrintWords Go.Proofs.YtpfkhinbehegbaaW.PrintLast Go.Proofs.YtpfkhinbehegbaaW.PrintMore
attribute [local go_sem] max2_int min2_int max_two min_two max_three min_three max_four min_four   -- for this text's walks alone
set_option linter.unusedVariables false
set_option linter.unusedSimpArgs false

/-! ### jacquardlaw24_DiophantLarge: function 10 -/
mutual
def jacquardlaw24_DiophantLarge.j0 : Nat → Bool → Int → Int → Int → Int → Int → Int → Int → Int → Int → Option (Bool)
  | 0, _, _, _, _, _, _, _, _, _, _ => none
  | k + 1, x19, x334000, x334001, x334002, x334003, x334004, x334005, x334006, x334007, x334008 => if x19 = true then ((jacquardlaw24_awake.f k).bind fun t336 => (some t336)) else ((diophant_Solve.f k x334000 x334001 x334002 x334003 x334004 x334005 x334006 x334007 x334008).bind fun bt337 => ((diophant_Refuse.f k x334000 x334001 x334002 x334003 x334004 x334005 x334006 x334007 x334008).bind fun bt340 => (if (bt337.2.2 == bt340.2.2) = true then (jacquardlaw24_DiophantLarge.j1 k bt337.1 bt337.2.1 bt337.2.2 true x334000 x334001 x334002 x334003 x334004 x334005 x334006 x334007 x334008 bt340.1 bt340.2.1) else ((diophant_Count.f k x334000 x334001 x334002 x334003 x334004 x334005 x334006 x334007 x334008).bind fun t344 => (jacquardlaw24_DiophantLarge.j1 k bt337.1 bt337.2.1 bt337.2.2 (bt337.2.2 != (decide (t344 > 0))) x334000 x334001 x334002 x334003 x334004 x334005 x334006 x334007 x334008 bt340.1 bt340.2.1)))))
def jacquardlaw24_DiophantLarge.j1 : Nat → Int → Int → Bool → Bool → Int → Int → Int → Int → Int → Int → Int → Int → Int → Int → Int → Option (Bool)
  | 0, _, _, _, _, _, _, _, _, _, _, _, _, _, _, _ => none
  | k + 1, x3, x4, x5, x41, x334000, x334001, x334002, x334003, x334004, x334005, x334006, x334007, x334008, x344000, x344001 => if x41 = true then (some false) else (if x5 = true then (if x3 < x334003 then (jacquardlaw24_DiophantLarge.j2 k x4 true x334000 x334001 x334002 x334003 x334004 x334005 x334006 x334007 x334008) else (if x3 > x334004 then (jacquardlaw24_DiophantLarge.j2 k x4 true x334000 x334001 x334002 x334003 x334004 x334005 x334006 x334007 x334008) else (if x4 < x334005 then (jacquardlaw24_DiophantLarge.j2 k x4 true x334000 x334001 x334002 x334003 x334004 x334005 x334006 x334007 x334008) else (if x4 > x334006 then (jacquardlaw24_DiophantLarge.j2 k x4 true x334000 x334001 x334002 x334003 x334004 x334005 x334006 x334007 x334008) else ((jacquardref24_Holds.f x334000 x334001 x334002 x334003 x334004 x334005 x334006 x334007 x334008 x3 x4).bind fun t346 => (jacquardlaw24_DiophantLarge.j2 k x4 (!t346) x334000 x334001 x334002 x334003 x334004 x334005 x334006 x334007 x334008)))))) else ((diophant_Check.f k x334000 x334001 x334002 x334003 x334004 x334005 x334006 x334007 x334008 x344000 x344001).bind fun t345 => (some t345)))
def jacquardlaw24_DiophantLarge.j2 : Nat → Int → Bool → Int → Int → Int → Int → Int → Int → Int → Int → Int → Option (Bool)
  | 0, _, _, _, _, _, _, _, _, _, _, _ => none
  | k + 1, x4, x79, x334000, x334001, x334002, x334003, x334004, x334005, x334006, x334007, x334008 => if x79 = true then (some false) else (if x4 ≤ (-2147483648) then (some true) else ((diophant_Solve.f k x334000 x334001 x334002 x334003 x334004 x334005 (wrap64 (x4 - 1)) x334007 x334008).bind fun bt347 => ((diophant_Refuse.f k x334000 x334001 x334002 x334003 x334004 x334005 (wrap64 (x4 - 1)) x334007 x334008).bind fun bt350 => (if bt347.2.2 = true then (some false) else (if bt350.2.2 = true then ((diophant_Check.f k x334000 x334001 x334002 x334003 x334004 x334005 (wrap64 (x4 - 1)) x334007 x334008 bt350.1 bt350.2.1).bind fun t354 => (some t354)) else (some false))))))
end
def jacquardlaw24_DiophantLarge.f (k : Nat) (a0_0 : Int) (a0_1 : Int) (a0_2 : Int) (a0_3 : Int) (a0_4 : Int) (a0_5 : Int) (a0_6 : Int) (a0_7 : Int) (a0_8 : Int) : Option (Bool) := (jacquardlaw24_awake.f k).bind fun t334 => (if t334 = true then ((jacquardref24_Valid.f a0_0 a0_1 a0_2 a0_3 a0_4 a0_5 a0_6 a0_7 a0_8).bind fun t335 => (jacquardlaw24_DiophantLarge.j0 k (!t335) a0_0 a0_1 a0_2 a0_3 a0_4 a0_5 a0_6 a0_7 a0_8)) else (jacquardlaw24_DiophantLarge.j0 k true a0_0 a0_1 a0_2 a0_3 a0_4 a0_5 a0_6 a0_7 a0_8))
theorem jacquardlaw24_DiophantLarge.mono_l : ∀ k, (∀ y0 y1 y2 y3 y4 y5 y6 y7 y8 y9, LeO (jacquardlaw24_DiophantLarge.j0 k y0 y1 y2 y3 y4 y5 y6 y7 y8 y9) (jacquardlaw24_DiophantLarge.j0 (k + 1) y0 y1 y2 y3 y4 y5 y6 y7 y8 y9)) ∧ (∀ y0 y1 y2 y3 y4 y5 y6 y7 y8 y9 y10 y11 y12 y13 y14, LeO (jacquardlaw24_DiophantLarge.j1 k y0 y1 y2 y3 y4 y5 y6 y7 y8 y9 y10 y11 y12 y13 y14) (jacquardlaw24_DiophantLarge.j1 (k + 1) y0 y1 y2 y3 y4 y5 y6 y7 y8 y9 y10 y11 y12 y13 y14)) ∧ (∀ y0 y1 y2 y3 y4 y5 y6 y7 y8 y9 y10, LeO (jacquardlaw24_DiophantLarge.j2 k y0 y1 y2 y3 y4 y5 y6 y7 y8 y9 y10) (jacquardlaw24_DiophantLarge.j2 (k + 1) y0 y1 y2 y3 y4 y5 y6 y7 y8 y9 y10))
  | 0 => ⟨fun _ _ _ _ _ _ _ _ _ _ r h => by simp [jacquardlaw24_DiophantLarge.j0] at h, fun _ _ _ _ _ _ _ _ _ _ _ _ _ _ _ r h => by simp [jacquardlaw24_DiophantLarge.j1] at h, fun _ _ _ _ _ _ _ _ _ _ _ r h => by simp [jacquardlaw24_DiophantLarge.j2] at h⟩
  | k + 1 => by
    obtain ⟨ih0, ih1, ih2⟩ := jacquardlaw24_DiophantLarge.mono_l k
    refine ⟨?_, ?_, ?_⟩
    · intro y0 y1 y2 y3 y4 y5 y6 y7 y8 y9
      unfold jacquardlaw24_DiophantLarge.j0
      repeat' first
      | (with_reducible exact ih0 _ _ _ _ _ _ _ _ _ _)
      | (with_reducible exact ih1 _ _ _ _ _ _ _ _ _ _ _ _ _ _ _)
      | (with_reducible exact ih2 _ _ _ _ _ _ _ _ _ _ _)
      | (with_reducible exact diophant_Check.mono _ _ _ _ _ _ _ _ _ _ _ _)
      | (with_reducible exact diophant_Count.mono _ _ _ _ _ _ _ _ _ _)
      | (with_reducible exact diophant_Refuse.mono _ _ _ _ _ _ _ _ _ _)
      | (with_reducible exact diophant_Solve.mono _ _ _ _ _ _ _ _ _ _)
      | (with_reducible exact jacquardlaw24_awake.mono _)
      | (with_reducible exact LeO.refl _)
      | (with_reducible exact LeO.none _)
      | (with_reducible refine LeO.ite ?_ ?_)
      | (with_reducible refine LeO.bind ?_ (fun _ => ?_))
      | exact ih0 _ _ _ _ _ _ _ _ _ _
      | exact ih1 _ _ _ _ _ _ _ _ _ _ _ _ _ _ _
      | exact ih2 _ _ _ _ _ _ _ _ _ _ _
      | exact diophant_Check.mono _ _ _ _ _ _ _ _ _ _ _ _
      | exact diophant_Count.mono _ _ _ _ _ _ _ _ _ _
      | exact diophant_Refuse.mono _ _ _ _ _ _ _ _ _ _
      | exact diophant_Solve.mono _ _ _ _ _ _ _ _ _ _
      | exact jacquardlaw24_awake.mono _
      | exact LeO.none _
      | refine LeO.ite ?_ ?_
      | refine LeO.bind ?_ (fun _ => ?_)
    · intro y0 y1 y2 y3 y4 y5 y6 y7 y8 y9 y10 y11 y12 y13 y14
      unfold jacquardlaw24_DiophantLarge.j1
      repeat' first
      | (with_reducible exact ih0 _ _ _ _ _ _ _ _ _ _)
      | (with_reducible exact ih1 _ _ _ _ _ _ _ _ _ _ _ _ _ _ _)
      | (with_reducible exact ih2 _ _ _ _ _ _ _ _ _ _ _)
      | (with_reducible exact diophant_Check.mono _ _ _ _ _ _ _ _ _ _ _ _)
      | (with_reducible exact diophant_Count.mono _ _ _ _ _ _ _ _ _ _)
      | (with_reducible exact diophant_Refuse.mono _ _ _ _ _ _ _ _ _ _)
      | (with_reducible exact diophant_Solve.mono _ _ _ _ _ _ _ _ _ _)
      | (with_reducible exact jacquardlaw24_awake.mono _)
      | (with_reducible exact LeO.refl _)
      | (with_reducible exact LeO.none _)
      | (with_reducible refine LeO.ite ?_ ?_)
      | (with_reducible refine LeO.bind ?_ (fun _ => ?_))
      | exact ih0 _ _ _ _ _ _ _ _ _ _
      | exact ih1 _ _ _ _ _ _ _ _ _ _ _ _ _ _ _
      | exact ih2 _ _ _ _ _ _ _ _ _ _ _
      | exact diophant_Check.mono _ _ _ _ _ _ _ _ _ _ _ _
      | exact diophant_Count.mono _ _ _ _ _ _ _ _ _ _
      | exact diophant_Refuse.mono _ _ _ _ _ _ _ _ _ _
      | exact diophant_Solve.mono _ _ _ _ _ _ _ _ _ _
      | exact jacquardlaw24_awake.mono _
      | exact LeO.none _
      | refine LeO.ite ?_ ?_
      | refine LeO.bind ?_ (fun _ => ?_)
    · intro y0 y1 y2 y3 y4 y5 y6 y7 y8 y9 y10
      unfold jacquardlaw24_DiophantLarge.j2
      repeat' first
      | (with_reducible exact ih0 _ _ _ _ _ _ _ _ _ _)
      | (with_reducible exact ih1 _ _ _ _ _ _ _ _ _ _ _ _ _ _ _)
      | (with_reducible exact ih2 _ _ _ _ _ _ _ _ _ _ _)
      | (with_reducible exact diophant_Check.mono _ _ _ _ _ _ _ _ _ _ _ _)
      | (with_reducible exact diophant_Count.mono _ _ _ _ _ _ _ _ _ _)
      | (with_reducible exact diophant_Refuse.mono _ _ _ _ _ _ _ _ _ _)
      | (with_reducible exact diophant_Solve.mono _ _ _ _ _ _ _ _ _ _)
      | (with_reducible exact jacquardlaw24_awake.mono _)
      | (with_reducible exact LeO.refl _)
      | (with_reducible exact LeO.none _)
      | (with_reducible refine LeO.ite ?_ ?_)
      | (with_reducible refine LeO.bind ?_ (fun _ => ?_))
      | exact ih0 _ _ _ _ _ _ _ _ _ _
      | exact ih1 _ _ _ _ _ _ _ _ _ _ _ _ _ _ _
      | exact ih2 _ _ _ _ _ _ _ _ _ _ _
      | exact diophant_Check.mono _ _ _ _ _ _ _ _ _ _ _ _
      | exact diophant_Count.mono _ _ _ _ _ _ _ _ _ _
      | exact diophant_Refuse.mono _ _ _ _ _ _ _ _ _ _
      | exact diophant_Solve.mono _ _ _ _ _ _ _ _ _ _
      | exact jacquardlaw24_awake.mono _
      | exact LeO.none _
      | refine LeO.ite ?_ ?_
      | refine LeO.bind ?_ (fun _ => ?_)
theorem jacquardlaw24_DiophantLarge.mono : ∀ a0 a1 a2 a3 a4 a5 a6 a7 a8 k, LeO (jacquardlaw24_DiophantLarge.f k a0 a1 a2 a3 a4 a5 a6 a7 a8) (jacquardlaw24_DiophantLarge.f (k + 1) a0 a1 a2 a3 a4 a5 a6 a7 a8) := by
  intro a0 a1 a2 a3 a4 a5 a6 a7 a8 k
  obtain ⟨ih0, ih1, ih2⟩ := jacquardlaw24_DiophantLarge.mono_l k
  unfold jacquardlaw24_DiophantLarge.f
  repeat' first
      | (with_reducible exact ih0 _ _ _ _ _ _ _ _ _ _)
      | (with_reducible exact ih1 _ _ _ _ _ _ _ _ _ _ _ _ _ _ _)
      | (with_reducible exact ih2 _ _ _ _ _ _ _ _ _ _ _)
      | (with_reducible exact diophant_Check.mono _ _ _ _ _ _ _ _ _ _ _ _)
      | (with_reducible exact diophant_Count.mono _ _ _ _ _ _ _ _ _ _)
      | (with_reducible exact diophant_Refuse.mono _ _ _ _ _ _ _ _ _ _)
      | (with_reducible exact diophant_Solve.mono _ _ _ _ _ _ _ _ _ _)
      | (with_reducible exact jacquardlaw24_awake.mono _)
      | (with_reducible exact LeO.refl _)
      | (with_reducible exact LeO.none _)
      | (with_reducible refine LeO.ite ?_ ?_)
      | (with_reducible refine LeO.bind ?_ (fun _ => ?_))
      | exact ih0 _ _ _ _ _ _ _ _ _ _
      | exact ih1 _ _ _ _ _ _ _ _ _ _ _ _ _ _ _
      | exact ih2 _ _ _ _ _ _ _ _ _ _ _
      | exact diophant_Check.mono _ _ _ _ _ _ _ _ _ _ _ _
      | exact diophant_Count.mono _ _ _ _ _ _ _ _ _ _
      | exact diophant_Refuse.mono _ _ _ _ _ _ _ _ _ _
      | exact diophant_Solve.mono _ _ _ _ _ _ _ _ _ _
      | exact jacquardlaw24_awake.mono _
      | exact LeO.none _
      | refine LeO.ite ?_ ?_
      | refine LeO.bind ?_ (fun _ => ?_)
set_option maxHeartbeats 8000000 in
set_option maxRecDepth 100000 in
theorem jacquardlaw24_DiophantLarge.calls (k : Nat) (a0_0 : Int) (a0_1 : Int) (a0_2 : Int) (a0_3 : Int) (a0_4 : Int) (a0_5 : Int) (a0_6 : Int) (a0_7 : Int) (a0_8 : Int) (r : Bool) (w : World) (h : jacquardlaw24_DiophantLarge.f k a0_0 a0_1 a0_2 a0_3 a0_4 a0_5 a0_6 a0_7 a0_8 = some r) :
    Calls Try.prog 10 #[.agg #[.int .i64 a0_0, .int .i64 a0_1, .int .i64 a0_2, .int .i64 a0_3, .int .i64 a0_4, .int .i64 a0_5, .int .i64 a0_6, .int .i64 a0_7, .int .i64 a0_8]] w fun e w' => e = .returned (.bool r) ∧ Below w.heap.size w w' := by
  have hu31 := Try.underlying31
  have hu46 := Try.underlying46
  have HB := Aside0.mk (Below.refl w.heap.size w)
  have H : ((jacquardlaw24_awake.f k).bind fun t334 => (if t334 = true then ((jacquardref24_Valid.f a0_0 a0_1 a0_2 a0_3 a0_4 a0_5 a0_6 a0_7 a0_8).bind fun t335 => (jacquardlaw24_DiophantLarge.j0 k (!t335) a0_0 a0_1 a0_2 a0_3 a0_4 a0_5 a0_6 a0_7 a0_8)) else (jacquardlaw24_DiophantLarge.j0 k true a0_0 a0_1 a0_2 a0_3 a0_4 a0_5 a0_6 a0_7 a0_8))) = some r := h
  clear h
  have HC2 := Aside0.mk H
  clear H
  go_enter Try.func10, Try.ntmps10
  go_upto_region 1 with (first | ((with_reducible refine gate_dst (N := 1) rfl ?_); refine box_event ?hg (N := 1) ?hd (cs := #[.int .i64 a0_0, .int .i64 a0_1, .int .i64 a0_2, .int .i64 a0_3, .int .i64 a0_4, .int .i64 a0_5, .int .i64 a0_6, .int .i64 a0_7, .int .i64 a0_8]) (t := 31) ?hr ?_; (case hd => rfl); (case hg => rfl); (case hr => first | (go_simp; done) | (go_simp; rfl)); intro gb333 hg w3 hbox hb; have n0_ := Aside0.mk (below_step (by repeat (first | (with_reducible first | exact HB.out | apply below_alloc | apply pw_below_drewN | apply below_drew1) | exact HB.out)) hb); have n1_ := Aside0.mk (hbox); have n2_ := Aside0.mk ((by rw [hg]; exact (below_size (by repeat (first | (with_reducible first | exact HB.out | apply below_alloc | apply pw_below_drewN | apply below_drew1) | exact HB.out))) : w.heap.size ≤ gb333)); have n3_ := Aside0.mk ((by rw [hg]; exact (below_size (by repeat (first | (with_reducible first | exact HB.out | apply below_alloc | apply pw_below_drewN | apply below_drew1) | exact HB.out))) : w.heap.size ≤ gb333)); clear HB; have HB := n0_; have BK333 := n1_; have GW333 := n2_; have GE333 := n3_; clear n0_ n1_ n2_ n3_; clear hb hbox hg))
  (try simp only [Act.put, List.setIfInBounds_toArray, List.set_cons_zero, List.set_cons_succ])
  go_cut [19] (fun v19 wc => ∃ (kq : Nat) (x19_1 : Bool), v19 = .bool x19_1 ∧ Aside0 (jacquardlaw24_DiophantLarge.j0 kq x19_1 a0_0 a0_1 a0_2 a0_3 a0_4 a0_5 a0_6 a0_7 a0_8 = some r) ∧ Aside0 (kq ≤ k) ∧ Aside0 (wc.heap[gb333]? = some (.cells #[.int .i64 a0_0, .int .i64 a0_1, .int .i64 a0_2, .int .i64 a0_3, .int .i64 a0_4, .int .i64 a0_5, .int .i64 a0_6, .int .i64 a0_7, .int .i64 a0_8] 31 (0, 0))) ∧ Aside0 (Below w.heap.size w wc))
  case first =>
    have H := HC2.out
    clear HC2
    replace H := Option.bind_eq_some_iff.mp H
    obtain ⟨t334, A40, H⟩ := H
    replace H : (if t334 = true then ((jacquardref24_Valid.f a0_0 a0_1 a0_2 a0_3 a0_4 a0_5 a0_6 a0_7 a0_8).bind fun t335 => (jacquardlaw24_DiophantLarge.j0 k (!t335) a0_0 a0_1 a0_2 a0_3 a0_4 a0_5 a0_6 a0_7 a0_8)) else (jacquardlaw24_DiophantLarge.j0 k true a0_0 a0_1 a0_2 a0_3 a0_4 a0_5 a0_6 a0_7 a0_8)) = some r := H
    have A4 := Aside0.mk A40
    clear A40
    by_cases c5 : t334 = true
    · subst c5
      have H1 : ((jacquardref24_Valid.f a0_0 a0_1 a0_2 a0_3 a0_4 a0_5 a0_6 a0_7 a0_8).bind fun t335 => (jacquardlaw24_DiophantLarge.j0 k (!t335) a0_0 a0_1 a0_2 a0_3 a0_4 a0_5 a0_6 a0_7 a0_8)) = some r := by rw [if_pos rfl] at H; exact H
      clear H
      have H := H1
      clear H1
      replace H := Option.bind_eq_some_iff.mp H
      obtain ⟨t335, A60, H⟩ := H
      replace H : (jacquardlaw24_DiophantLarge.j0 k (!t335) a0_0 a0_1 a0_2 a0_3 a0_4 a0_5 a0_6 a0_7 a0_8) = some r := H
      have A6 := Aside0.mk A60
      clear A60
      have H' := Aside0.mk H
      clear H
      go_wp2_with (first | ((with_reducible refine gate_callee (f := 11) rfl ?_); refine goesL_ (some 13) rfl rfl Try.func11 (by kernel_rfl) rfl #[] rfl (by (try simp only [List.map_toArray, List.map_cons, List.map_nil]); first | done | rfl | (simp only [List.length_drop, List.length_take]; rfl)) ?_; (with_reducible refine (jacquardlaw24_awake.calls k  true _ A4.out).mono ?_); rintro e w7 ⟨rfl, hb⟩; refine ⟨_, rfl, ?_⟩; have n0_ := Aside0.mk (blk_below (g := gb333) (by (with_reducible repeat (first | refine blk_drewN ?_ _ | refine blk_drew ?_ | refine blk_alloc ?_ _)); exact BK333.out) hb); have n1_ := Aside0.mk (below_step (by repeat (first | (with_reducible first | exact HB.out | apply below_alloc | apply pw_below_drewN | apply below_drew1 | refine below_set ?_ GE333.out) | exact HB.out)) hb); clear BK333; clear HB; have BK333 := n0_; have HB := n1_; clear n0_ n1_; (try clear hb); (try clear hb2); (try clear hk); (try clear hi); obtain ⟨_, _, _, _, _, _, _, _, _⟩ := sq_cells9 BK333.out; obtain ⟨_, _, _, _, _, _, _, _, _⟩ := sq_free9 BK333.out) | (go_at_call 16; (with_reducible refine (jacquardref24_Valid.calls a0_0 a0_1 a0_2 a0_3 a0_4 a0_5 a0_6 a0_7 a0_8 t335 _ A6.out).mono ?_); rintro e w9 ⟨rfl, hb⟩; have n0_ := Aside0.mk (blk_below (g := gb333) (by (with_reducible repeat (first | refine blk_drewN ?_ _ | refine blk_drew ?_ | refine blk_alloc ?_ _)); exact BK333.out) hb); have n1_ := Aside0.mk (below_step (by repeat (first | (with_reducible first | exact HB.out | apply below_alloc | apply pw_below_drewN | apply below_drew1 | refine below_set ?_ GE333.out) | exact HB.out)) hb); clear BK333; clear HB; have BK333 := n0_; have HB := n1_; clear n0_ n1_; (try clear hb); (try clear hb2); (try clear hk); (try clear hi)))
      go_meet
      case rel => exact ⟨_, (!t335), (by first | rfl | (simp; done) | (simp [*]; done)), H', ⟨by first | omega | exact Nat.le_refl _⟩, ⟨by (with_reducible repeat (first | refine blk_drewN ?_ _ | refine blk_drew ?_ | refine blk_alloc ?_ _)); exact BK333.out⟩, ⟨by repeat (first | (with_reducible first | exact HB.out | apply below_alloc | apply pw_below_drewN | apply below_drew1 | refine below_set ?_ GE333.out) | exact HB.out)⟩⟩
    · replace c5 := Bool.eq_false_iff.mpr c5
      subst c5
      have H1 : (jacquardlaw24_DiophantLarge.j0 k true a0_0 a0_1 a0_2 a0_3 a0_4 a0_5 a0_6 a0_7 a0_8) = some r := by rw [if_neg (show ¬ (false = true) by decide)] at H; exact H
      clear H
      have H := H1
      clear H1
      have H' := Aside0.mk H
      clear H
      go_wp2_with (first | ((with_reducible refine gate_callee (f := 11) rfl ?_); refine goesL_ (some 13) rfl rfl Try.func11 (by kernel_rfl) rfl #[] rfl (by (try simp only [List.map_toArray, List.map_cons, List.map_nil]); first | done | rfl | (simp only [List.length_drop, List.length_take]; rfl)) ?_; (with_reducible refine (jacquardlaw24_awake.calls k  false _ A4.out).mono ?_); rintro e w10 ⟨rfl, hb⟩; refine ⟨_, rfl, ?_⟩; have n0_ := Aside0.mk (blk_below (g := gb333) (by (with_reducible repeat (first | refine blk_drewN ?_ _ | refine blk_drew ?_ | refine blk_alloc ?_ _)); exact BK333.out) hb); have n1_ := Aside0.mk (below_step (by repeat (first | (with_reducible first | exact HB.out | apply below_alloc | apply pw_below_drewN | apply below_drew1 | refine below_set ?_ GE333.out) | exact HB.out)) hb); clear BK333; clear HB; have BK333 := n0_; have HB := n1_; clear n0_ n1_; (try clear hb); (try clear hb2); (try clear hk); (try clear hi)))
      go_meet
      case rel => exact ⟨_, (true), (by first | rfl | (simp; done) | (simp [*]; done)), H', ⟨by first | omega | exact Nat.le_refl _⟩, ⟨by (with_reducible repeat (first | refine blk_drewN ?_ _ | refine blk_drew ?_ | refine blk_alloc ?_ _)); exact BK333.out⟩, ⟨by repeat (first | (with_reducible first | exact HB.out | apply below_alloc | apply pw_below_drewN | apply below_drew1 | refine below_set ?_ GE333.out) | exact HB.out)⟩⟩
  case rest =>
    clear HC2
    try clear c1
    try clear p2
    try clear c5
    try clear c10
    try clear hcz8_0
    try clear hcz8_1
    try clear hcz8_2
    try clear hcz8_3
    try clear hcz8_4
    try clear hcz8_5
    try clear hcz8_6
    try clear hcz8_7
    try clear hcz8_8
    try clear hfz8_0
    try clear hfz8_1
    try clear hfz8_2
    try clear hfz8_3
    try clear hfz8_4
    try clear hfz8_5
    try clear hfz8_6
    try clear hfz8_7
    try clear hfz8_8
    obtain ⟨kq, x19_1, rfl, HA, HJ1, BK333, HB⟩ := hcut
    cases kq with
    | zero => exact absurd HA.out (by simp [jacquardlaw24_DiophantLarge.j0])
    | succ kj1 =>
      have H := HA.out
      clear HA
      simp only [jacquardlaw24_DiophantLarge.j0] at H
      by_cases c11 : x19_1 = true
      · subst c11
        have H1 : ((jacquardlaw24_awake.f kj1).bind fun t336 => (some t336)) = some r := by rw [if_pos rfl] at H; exact H
        clear H
        have H := H1
        clear H1
        replace H := Option.bind_eq_some_iff.mp H
        obtain ⟨t336, A120, H⟩ := H
        replace H : (some t336) = some r := H
        have A12 := Aside0.mk A120
        clear A120
        obtain rfl := Option.some.inj H
        go_wp2_with (first | ((with_reducible refine gate_callee (f := 11) rfl ?_); refine goesL_ (some 20) rfl rfl Try.func11 (by kernel_rfl) rfl #[] rfl (by (try simp only [List.map_toArray, List.map_cons, List.map_nil]); first | done | rfl | (simp only [List.length_drop, List.length_take]; rfl)) ?_; (with_reducible refine (jacquardlaw24_awake.calls kj1  t336 _ A12.out).mono ?_); rintro e w13 ⟨rfl, hb⟩; refine ⟨_, rfl, ?_⟩; have n0_ := Aside0.mk (blk_below (g := gb333) (by (with_reducible repeat (first | refine blk_drewN ?_ _ | refine blk_drew ?_ | refine blk_alloc ?_ _)); exact BK333.out) hb); have n1_ := Aside0.mk (below_step (by repeat (first | (with_reducible first | exact HB.out | apply below_alloc | apply pw_below_drewN | apply below_drew1 | refine below_set ?_ GE333.out) | exact HB.out)) hb); clear BK333; clear HB; have BK333 := n0_; have HB := n1_; clear n0_ n1_; (try clear hb); (try clear hb2); (try clear hk); (try clear hi)))
        go_ret
        exact ⟨by first | rfl | (simp [errW_none, errW_some] <;> rfl) | (simp [*, errW_none, errW_some] <;> rfl), by repeat (first | (with_reducible first | exact HB.out | apply below_alloc | apply pw_below_drewN | apply below_drew1 | refine below_set ?_ GE333.out) | exact HB.out)⟩
      · replace c11 := Bool.eq_false_iff.mpr c11
        subst c11
        have H1 : ((diophant_Solve.f kj1 a0_0 a0_1 a0_2 a0_3 a0_4 a0_5 a0_6 a0_7 a0_8).bind fun bt337 => ((diophant_Refuse.f kj1 a0_0 a0_1 a0_2 a0_3 a0_4 a0_5 a0_6 a0_7 a0_8).bind fun bt340 => (if (bt337.2.2 == bt340.2.2) = true then (jacquardlaw24_DiophantLarge.j1 kj1 bt337.1 bt337.2.1 bt337.2.2 true a0_0 a0_1 a0_2 a0_3 a0_4 a0_5 a0_6 a0_7 a0_8 bt340.1 bt340.2.1) else ((diophant_Count.f kj1 a0_0 a0_1 a0_2 a0_3 a0_4 a0_5 a0_6 a0_7 a0_8).bind fun t344 => (jacquardlaw24_DiophantLarge.j1 kj1 bt337.1 bt337.2.1 bt337.2.2 (bt337.2.2 != (decide (t344 > 0))) a0_0 a0_1 a0_2 a0_3 a0_4 a0_5 a0_6 a0_7 a0_8 bt340.1 bt340.2.1))))) = some r := by rw [if_neg (show ¬ (false = true) by decide)] at H; exact H
        clear H
        have H := H1
        clear H1
        replace H := Option.bind_eq_some_iff.mp H
        obtain ⟨⟨t337, t338, t339⟩, A140, H⟩ := H
        replace H : ((diophant_Refuse.f kj1 a0_0 a0_1 a0_2 a0_3 a0_4 a0_5 a0_6 a0_7 a0_8).bind fun bt340 => (if (t339 == bt340.2.2) = true then (jacquardlaw24_DiophantLarge.j1 kj1 t337 t338 t339 true a0_0 a0_1 a0_2 a0_3 a0_4 a0_5 a0_6 a0_7 a0_8 bt340.1 bt340.2.1) else ((diophant_Count.f kj1 a0_0 a0_1 a0_2 a0_3 a0_4 a0_5 a0_6 a0_7 a0_8).bind fun t344 => (jacquardlaw24_DiophantLarge.j1 kj1 t337 t338 t339 (t339 != (decide (t344 > 0))) a0_0 a0_1 a0_2 a0_3 a0_4 a0_5 a0_6 a0_7 a0_8 bt340.1 bt340.2.1)))) = some r := H
        have A14 := Aside0.mk A140
        clear A140
        replace H := Option.bind_eq_some_iff.mp H
        obtain ⟨⟨t340, t341, t342⟩, A150, H⟩ := H
        replace H : (if (t339 == t342) = true then (jacquardlaw24_DiophantLarge.j1 kj1 t337 t338 t339 true a0_0 a0_1 a0_2 a0_3 a0_4 a0_5 a0_6 a0_7 a0_8 t340 t341) else ((diophant_Count.f kj1 a0_0 a0_1 a0_2 a0_3 a0_4 a0_5 a0_6 a0_7 a0_8).bind fun t344 => (jacquardlaw24_DiophantLarge.j1 kj1 t337 t338 t339 (t339 != (decide (t344 > 0))) a0_0 a0_1 a0_2 a0_3 a0_4 a0_5 a0_6 a0_7 a0_8 t340 t341))) = some r := H
        have A15 := Aside0.mk A150
        clear A150
        have HC16 := Aside0.mk H
        clear H
        have hcz17_0 : wc.cell? ⟨gb333, 0, none⟩ = some (.int .i64 a0_0) := (blk_cell BK333.out 0).trans rfl
        have hcz17_1 : wc.cell? ⟨gb333, 1, none⟩ = some (.int .i64 a0_1) := (blk_cell BK333.out 1).trans rfl
        have hcz17_2 : wc.cell? ⟨gb333, 2, none⟩ = some (.int .i64 a0_2) := (blk_cell BK333.out 2).trans rfl
        have hcz17_3 : wc.cell? ⟨gb333, 3, none⟩ = some (.int .i64 a0_3) := (blk_cell BK333.out 3).trans rfl
        have hcz17_4 : wc.cell? ⟨gb333, 4, none⟩ = some (.int .i64 a0_4) := (blk_cell BK333.out 4).trans rfl
        have hcz17_5 : wc.cell? ⟨gb333, 5, none⟩ = some (.int .i64 a0_5) := (blk_cell BK333.out 5).trans rfl
        have hcz17_6 : wc.cell? ⟨gb333, 6, none⟩ = some (.int .i64 a0_6) := (blk_cell BK333.out 6).trans rfl
        have hcz17_7 : wc.cell? ⟨gb333, 7, none⟩ = some (.int .i64 a0_7) := (blk_cell BK333.out 7).trans rfl
        have hcz17_8 : wc.cell? ⟨gb333, 8, none⟩ = some (.int .i64 a0_8) := (blk_cell BK333.out 8).trans rfl
        have hfz17_0 := blk_frozen BK333.out 0
        have hfz17_1 := blk_frozen BK333.out 1
        have hfz17_2 := blk_frozen BK333.out 2
        have hfz17_3 := blk_frozen BK333.out 3
        have hfz17_4 := blk_frozen BK333.out 4
        have hfz17_5 := blk_frozen BK333.out 5
        have hfz17_6 := blk_frozen BK333.out 6
        have hfz17_7 := blk_frozen BK333.out 7
        have hfz17_8 := blk_frozen BK333.out 8
        go_upto_region 5 with (first | ((with_reducible refine gate_callee (f := 19) rfl ?_); refine goesL_ (some 23) rfl rfl Try.func19 (by kernel_rfl) rfl #[.agg #[.int .i64 a0_0, .int .i64 a0_1, .int .i64 a0_2, .int .i64 a0_3, .int .i64 a0_4, .int .i64 a0_5, .int .i64 a0_6, .int .i64 a0_7, .int .i64 a0_8]] rfl (by (try simp only [List.map_toArray, List.map_cons, List.map_nil]); first | done | rfl | (simp only [List.length_drop, List.length_take]; rfl)) ?_; (with_reducible refine (diophant_Solve.calls kj1 a0_0 a0_1 a0_2 a0_3 a0_4 a0_5 a0_6 a0_7 a0_8 t337 t338 t339 _ A14.out).mono ?_); rintro e w18 ⟨rfl, hb⟩; refine ⟨_, rfl, ?_⟩; have n0_ := Aside0.mk (blk_below (g := gb333) (by (with_reducible repeat (first | refine blk_drewN ?_ _ | refine blk_drew ?_ | refine blk_alloc ?_ _)); exact BK333.out) hb); have n1_ := Aside0.mk (below_step (by repeat (first | (with_reducible first | exact HB.out | apply below_alloc | apply pw_below_drewN | apply below_drew1 | refine below_set ?_ GE333.out) | exact HB.out)) hb); clear BK333; clear HB; have BK333 := n0_; have HB := n1_; clear n0_ n1_; (try clear hb); (try clear hb2); (try clear hk); (try clear hi); obtain ⟨_, _, _, _, _, _, _, _, _⟩ := sq_cells9 BK333.out; obtain ⟨_, _, _, _, _, _, _, _, _⟩ := sq_free9 BK333.out) | ((with_reducible refine gate_callee (f := 25) rfl ?_); refine goesL_ (some 29) rfl rfl Try.func25 (by kernel_rfl) rfl #[.agg #[.int .i64 a0_0, .int .i64 a0_1, .int .i64 a0_2, .int .i64 a0_3, .int .i64 a0_4, .int .i64 a0_5, .int .i64 a0_6, .int .i64 a0_7, .int .i64 a0_8]] rfl (by (try simp only [List.map_toArray, List.map_cons, List.map_nil]); first | done | rfl | (simp only [List.length_drop, List.length_take]; rfl)) ?_; (with_reducible refine (diophant_Refuse.calls kj1 a0_0 a0_1 a0_2 a0_3 a0_4 a0_5 a0_6 a0_7 a0_8 t340 t341 t342 _ A15.out).mono ?_); rintro e w20 ⟨rfl, hb⟩; refine ⟨_, rfl, ?_⟩; have n0_ := Aside0.mk (blk_below (g := gb333) (by (with_reducible repeat (first | refine blk_drewN ?_ _ | refine blk_drew ?_ | refine blk_alloc ?_ _)); exact BK333.out) hb); have n1_ := Aside0.mk (below_step (by repeat (first | (with_reducible first | exact HB.out | apply below_alloc | apply pw_below_drewN | apply below_drew1 | refine below_set ?_ GE333.out) | exact HB.out)) hb); clear BK333; clear HB; have BK333 := n0_; have HB := n1_; clear n0_ n1_; (try clear hb); (try clear hb2); (try clear hk); (try clear hi)) | ((with_reducible refine gate_dst (N := 6) rfl ?_); refine box_event ?hg (N := 6) ?hd (cs := #[.int .i64 0, .int .i64 0]) (t := 46) ?hr ?_; (case hd => rfl); (case hg => rfl); (case hr => first | (go_simp; done) | (go_simp; rfl)); intro gb343 hg w21 hbox hb; have n0_ := Aside0.mk (blk_below (g := gb333) (by (with_reducible repeat (first | refine blk_drewN ?_ _ | refine blk_drew ?_ | refine blk_alloc ?_ _)); exact BK333.out) hb); have n1_ := Aside0.mk (below_step (by repeat (first | (with_reducible first | exact HB.out | apply below_alloc | apply pw_below_drewN | apply below_drew1 | refine below_set ?_ GE333.out) | exact HB.out)) hb); have n2_ := Aside0.mk (hbox); have n3_ := Aside0.mk ((by rw [hg]; exact (below_size (by repeat (first | (with_reducible first | exact HB.out | apply below_alloc | apply pw_below_drewN | apply below_drew1 | refine below_set ?_ GE333.out) | exact HB.out))) : w.heap.size ≤ gb343)); have n4_ := Aside0.mk ((by rw [hg]; exact (below_size (by repeat (first | (with_reducible first | exact HB.out | apply below_alloc | apply pw_below_drewN | apply below_drew1 | refine below_set ?_ GE333.out) | exact HB.out))) : w.heap.size ≤ gb343)); have n5_ := Aside0.mk ((by rw [hg]; exact Nat.ne_of_lt (blk_lt (g := gb333) (by (with_reducible repeat (first | refine blk_drewN ?_ _ | refine blk_drew ?_ | refine blk_alloc ?_ _)); exact BK333.out)) : gb333 ≠ gb343)); have n6_ := Aside0.mk ((by rw [hg]; exact Nat.ne_of_gt (blk_lt (g := gb333) (by (with_reducible repeat (first | refine blk_drewN ?_ _ | refine blk_drew ?_ | refine blk_alloc ?_ _)); exact BK333.out)) : gb343 ≠ gb333)); clear BK333; clear HB; have BK333 := n0_; have HB := n1_; have BK343 := n2_; have GW343 := n3_; have GE343 := n4_; have NB333_343 := n5_; have NB343_333 := n6_; clear n0_ n1_ n2_ n3_ n4_ n5_ n6_; clear hb hbox hg; have hnb22 := NB343_333.out; have hnc22 := NB333_343.out; obtain ⟨_, _⟩ := sq_cells2 BK343.out; obtain ⟨_, _⟩ := sq_free2 BK343.out))
        (try simp only [Act.put, List.setIfInBounds_toArray, List.set_cons_zero, List.set_cons_succ])
        go_cut [41] (fun v41 wc => ∃ (kq : Nat) (x41_15 : Bool), v41 = .bool x41_15 ∧ Aside0 (jacquardlaw24_DiophantLarge.j1 kq t337 t338 t339 x41_15 a0_0 a0_1 a0_2 a0_3 a0_4 a0_5 a0_6 a0_7 a0_8 t340 t341 = some r) ∧ Aside0 (kq ≤ kj1) ∧ Aside0 (wc.heap[gb333]? = some (.cells #[.int .i64 a0_0, .int .i64 a0_1, .int .i64 a0_2, .int .i64 a0_3, .int .i64 a0_4, .int .i64 a0_5, .int .i64 a0_6, .int .i64 a0_7, .int .i64 a0_8] 31 (0, 0))) ∧ Aside0 (wc.heap[gb343]? = some (.cells #[.int .i64 t340, .int .i64 t341] 46 (0, 0))) ∧ Aside0 (Below w.heap.size w wc))
        case first =>
          have H := HC16.out
          clear HC16
          by_cases c24 : (t339 == t342) = true
          · rw [if_pos c24] at H
            have c24b0 : (t339 == t342) = true := c24
            (try (have c24b1 : decide (t339 = t342) = true := by simpa using c24))
            (try (have c24b2 : (t339 == t342) = true := by simpa using c24))
            clear c24
            (first | rw [c24b0] | (simp only [i64_w, i32_w]; rw [c24b0]) | skip)
            have H' := Aside0.mk H
            clear H
            go_wp2
            go_meet
            case rel => exact ⟨_, (true), (by first | rfl | (simp; done) | (simp [*]; done)), H', ⟨by have := HJ1.out; first | omega | exact Nat.le_refl _⟩, ⟨by (with_reducible repeat (first | refine blk_drewN ?_ _ | refine blk_drew ?_ | refine blk_alloc ?_ _)); refine blk_far ?_ NB333_343.out _; (with_reducible repeat (first | refine blk_drewN ?_ _ | refine blk_drew ?_ | refine blk_alloc ?_ _)); refine blk_far ?_ NB333_343.out _; (with_reducible repeat (first | refine blk_drewN ?_ _ | refine blk_drew ?_ | refine blk_alloc ?_ _)); exact BK333.out⟩, ⟨by (with_reducible repeat (first | refine blk_drewN ?_ _ | refine blk_drew ?_ | refine blk_alloc ?_ _)); refine blk_put (cs := #[.int .i64 t340, .int .i64 0]) ?_ 1 _ rfl; (with_reducible repeat (first | refine blk_drewN ?_ _ | refine blk_drew ?_ | refine blk_alloc ?_ _)); refine blk_put (cs := #[.int .i64 0, .int .i64 0]) ?_ 0 _ rfl; (with_reducible repeat (first | refine blk_drewN ?_ _ | refine blk_drew ?_ | refine blk_alloc ?_ _)); exact BK343.out⟩, ⟨by repeat (first | (with_reducible first | exact HB.out | apply below_alloc | apply pw_below_drewN | apply below_drew1 | refine below_set ?_ GE333.out | refine below_set ?_ GE343.out) | exact HB.out)⟩⟩
          · rw [if_neg c24] at H
            have c24b0 : (t339 == t342) = false := by simpa using c24
            (try (have c24b1 : decide (t339 = t342) = false := by simpa using c24))
            (try (have c24b2 : (t339 == t342) = false := by simpa using c24))
            (try (have c24b3 : ¬ (t339 = t342) := by simpa using c24))
            clear c24
            (first | rw [c24b0] | (simp only [i64_w, i32_w]; rw [c24b0]) | skip)
            replace H := Option.bind_eq_some_iff.mp H
            obtain ⟨t344, A250, H⟩ := H
            replace H : (jacquardlaw24_DiophantLarge.j1 kj1 t337 t338 t339 (t339 != (decide (t344 > 0))) a0_0 a0_1 a0_2 a0_3 a0_4 a0_5 a0_6 a0_7 a0_8 t340 t341) = some r := H
            have A25 := Aside0.mk A250
            clear A250
            have H' := Aside0.mk H
            clear H
            have hnb26 := NB333_343.out
            have hnc26 := NB343_333.out
            have hcz27_0 : w21.cell? ⟨gb333, 0, none⟩ = some (.int .i64 a0_0) := (blk_cell BK333.out 0).trans rfl
            have hcz27_1 : w21.cell? ⟨gb333, 1, none⟩ = some (.int .i64 a0_1) := (blk_cell BK333.out 1).trans rfl
            have hcz27_2 : w21.cell? ⟨gb333, 2, none⟩ = some (.int .i64 a0_2) := (blk_cell BK333.out 2).trans rfl
            have hcz27_3 : w21.cell? ⟨gb333, 3, none⟩ = some (.int .i64 a0_3) := (blk_cell BK333.out 3).trans rfl
            have hcz27_4 : w21.cell? ⟨gb333, 4, none⟩ = some (.int .i64 a0_4) := (blk_cell BK333.out 4).trans rfl
            have hcz27_5 : w21.cell? ⟨gb333, 5, none⟩ = some (.int .i64 a0_5) := (blk_cell BK333.out 5).trans rfl
            have hcz27_6 : w21.cell? ⟨gb333, 6, none⟩ = some (.int .i64 a0_6) := (blk_cell BK333.out 6).trans rfl
            have hcz27_7 : w21.cell? ⟨gb333, 7, none⟩ = some (.int .i64 a0_7) := (blk_cell BK333.out 7).trans rfl
            have hcz27_8 : w21.cell? ⟨gb333, 8, none⟩ = some (.int .i64 a0_8) := (blk_cell BK333.out 8).trans rfl
            have hfz27_0 := blk_frozen BK333.out 0
            have hfz27_1 := blk_frozen BK333.out 1
            have hfz27_2 := blk_frozen BK333.out 2
            have hfz27_3 := blk_frozen BK333.out 3
            have hfz27_4 := blk_frozen BK333.out 4
            have hfz27_5 := blk_frozen BK333.out 5
            have hfz27_6 := blk_frozen BK333.out 6
            have hfz27_7 := blk_frozen BK333.out 7
            have hfz27_8 := blk_frozen BK333.out 8
            go_wp2_with (first | (go_at_call 18; (with_reducible refine (diophant_Count.calls kj1 a0_0 a0_1 a0_2 a0_3 a0_4 a0_5 a0_6 a0_7 a0_8 t344 _ A25.out).mono ?_); rintro e w28 ⟨rfl, hb⟩; have n0_ := Aside0.mk (blk_below (g := gb333) (o := .cells #[.int .i64 a0_0, .int .i64 a0_1, .int .i64 a0_2, .int .i64 a0_3, .int .i64 a0_4, .int .i64 a0_5, .int .i64 a0_6, .int .i64 a0_7, .int .i64 a0_8] 31 (0, 0)) (by (with_reducible repeat (first | refine blk_drewN ?_ _ | refine blk_drew ?_ | refine blk_alloc ?_ _)); refine blk_far ?_ NB333_343.out _; (with_reducible repeat (first | refine blk_drewN ?_ _ | refine blk_drew ?_ | refine blk_alloc ?_ _)); refine blk_far ?_ NB333_343.out _; (with_reducible repeat (first | refine blk_drewN ?_ _ | refine blk_drew ?_ | refine blk_alloc ?_ _)); exact BK333.out) hb); have n1_ := Aside0.mk (blk_below (g := gb343) (o := .cells #[.int .i64 t340, .int .i64 t341] 46 (0, 0)) (by (with_reducible repeat (first | refine blk_drewN ?_ _ | refine blk_drew ?_ | refine blk_alloc ?_ _)); refine blk_put (cs := #[.int .i64 t340, .int .i64 0]) ?_ 1 _ rfl; (with_reducible repeat (first | refine blk_drewN ?_ _ | refine blk_drew ?_ | refine blk_alloc ?_ _)); refine blk_put (cs := #[.int .i64 0, .int .i64 0]) ?_ 0 _ rfl; (with_reducible repeat (first | refine blk_drewN ?_ _ | refine blk_drew ?_ | refine blk_alloc ?_ _)); exact BK343.out) hb); have n2_ := Aside0.mk (below_step (by repeat (first | (with_reducible first | exact HB.out | apply below_alloc | apply pw_below_drewN | apply below_drew1 | refine below_set ?_ GE333.out | refine below_set ?_ GE343.out) | exact HB.out)) hb); clear BK333; clear BK343; clear HB; have BK333 := n0_; have BK343 := n1_; have HB := n2_; clear n0_ n1_ n2_; (try clear hb); (try clear hb2); (try clear hk); (try clear hi)))
            go_meet
            case rel => exact ⟨_, ((t339 != (decide (t344 > 0)))), (by first | rfl | (simp; done) | (simp [*]; done)), H', ⟨by have := HJ1.out; first | omega | exact Nat.le_refl _⟩, ⟨by (with_reducible repeat (first | refine blk_drewN ?_ _ | refine blk_drew ?_ | refine blk_alloc ?_ _)); exact BK333.out⟩, ⟨by (with_reducible repeat (first | refine blk_drewN ?_ _ | refine blk_drew ?_ | refine blk_alloc ?_ _)); exact BK343.out⟩, ⟨by repeat (first | (with_reducible first | exact HB.out | apply below_alloc | apply pw_below_drewN | apply below_drew1 | refine below_set ?_ GE333.out | refine below_set ?_ GE343.out) | exact HB.out)⟩⟩
        case rest =>
          clear HC16
          try clear c1
          try clear c2
          try clear p2
          try clear c5
          try clear c10
          try clear c11
          try clear c19
          try clear c22
          try clear c24
          try clear c24b0
          try clear c24b1
          try clear c24b2
          try clear c25
          try clear c26
          try clear hcz17_0
          try clear hcz17_1
          try clear hcz17_2
          try clear hcz17_3
          try clear hcz17_4
          try clear hcz17_5
          try clear hcz17_6
          try clear hcz17_7
          try clear hcz17_8
          try clear hcz19_0
          try clear hcz19_1
          try clear hcz19_2
          try clear hcz19_3
          try clear hcz19_4
          try clear hcz19_5
          try clear hcz19_6
          try clear hcz19_7
          try clear hcz19_8
          try clear hcz23_0
          try clear hcz23_1
          try clear hcz27_0
          try clear hcz27_1
          try clear hcz27_2
          try clear hcz27_3
          try clear hcz27_4
          try clear hcz27_5
          try clear hcz27_6
          try clear hcz27_7
          try clear hcz27_8
          try clear hcz8_0
          try clear hcz8_1
          try clear hcz8_2
          try clear hcz8_3
          try clear hcz8_4
          try clear hcz8_5
          try clear hcz8_6
          try clear hcz8_7
          try clear hcz8_8
          try clear hfz17_0
          try clear hfz17_1
          try clear hfz17_2
          try clear hfz17_3
          try clear hfz17_4
          try clear hfz17_5
          try clear hfz17_6
          try clear hfz17_7
          try clear hfz17_8
          try clear hfz19_0
          try clear hfz19_1
          try clear hfz19_2
          try clear hfz19_3
          try clear hfz19_4
          try clear hfz19_5
          try clear hfz19_6
          try clear hfz19_7
          try clear hfz19_8
          try clear hfz23_0
          try clear hfz23_1
          try clear hfz27_0
          try clear hfz27_1
          try clear hfz27_2
          try clear hfz27_3
          try clear hfz27_4
          try clear hfz27_5
          try clear hfz27_6
          try clear hfz27_7
          try clear hfz27_8
          try clear hfz8_0
          try clear hfz8_1
          try clear hfz8_2
          try clear hfz8_3
          try clear hfz8_4
          try clear hfz8_5
          try clear hfz8_6
          try clear hfz8_7
          try clear hfz8_8
          try clear p2
          obtain ⟨kq, x41_15, rfl, HA, HJ15, BK333, BK343, HB⟩ := hcut
          cases kq with
          | zero => exact absurd HA.out (by simp [jacquardlaw24_DiophantLarge.j1])
          | succ kj15 =>
            have H := HA.out
            clear HA
            simp only [jacquardlaw24_DiophantLarge.j1] at H
            by_cases c29 : x41_15 = true
            · subst c29
              have H1 : (some false) = some r := by rw [if_pos rfl] at H; exact H
              clear H
              have H := H1
              clear H1
              obtain rfl := Option.some.inj H
              go_wp2
              go_ret
              exact ⟨by first | rfl | (simp [errW_none, errW_some] <;> rfl) | (simp [*, errW_none, errW_some] <;> rfl), by repeat (first | (with_reducible first | exact HB.out | apply below_alloc | apply pw_below_drewN | apply below_drew1 | refine below_set ?_ GE333.out | refine below_set ?_ GE343.out) | exact HB.out)⟩
            · replace c29 := Bool.eq_false_iff.mpr c29
              subst c29
              have H1 : (if t339 = true then (if t337 < a0_3 then (jacquardlaw24_DiophantLarge.j2 kj15 t338 true a0_0 a0_1 a0_2 a0_3 a0_4 a0_5 a0_6 a0_7 a0_8) else (if t337 > a0_4 then (jacquardlaw24_DiophantLarge.j2 kj15 t338 true a0_0 a0_1 a0_2 a0_3 a0_4 a0_5 a0_6 a0_7 a0_8) else (if t338 < a0_5 then (jacquardlaw24_DiophantLarge.j2 kj15 t338 true a0_0 a0_1 a0_2 a0_3 a0_4 a0_5 a0_6 a0_7 a0_8) else (if t338 > a0_6 then (jacquardlaw24_DiophantLarge.j2 kj15 t338 true a0_0 a0_1 a0_2 a0_3 a0_4 a0_5 a0_6 a0_7 a0_8) else ((jacquardref24_Holds.f a0_0 a0_1 a0_2 a0_3 a0_4 a0_5 a0_6 a0_7 a0_8 t337 t338).bind fun t346 => (jacquardlaw24_DiophantLarge.j2 kj15 t338 (!t346) a0_0 a0_1 a0_2 a0_3 a0_4 a0_5 a0_6 a0_7 a0_8)))))) else ((diophant_Check.f kj15 a0_0 a0_1 a0_2 a0_3 a0_4 a0_5 a0_6 a0_7 a0_8 t340 t341).bind fun t345 => (some t345))) = some r := by rw [if_neg (show ¬ (false = true) by decide)] at H; exact H
              clear H
              have H := H1
              clear H1
              by_cases c30 : t339 = true
              · subst c30
                have H1 : (if t337 < a0_3 then (jacquardlaw24_DiophantLarge.j2 kj15 t338 true a0_0 a0_1 a0_2 a0_3 a0_4 a0_5 a0_6 a0_7 a0_8) else (if t337 > a0_4 then (jacquardlaw24_DiophantLarge.j2 kj15 t338 true a0_0 a0_1 a0_2 a0_3 a0_4 a0_5 a0_6 a0_7 a0_8) else (if t338 < a0_5 then (jacquardlaw24_DiophantLarge.j2 kj15 t338 true a0_0 a0_1 a0_2 a0_3 a0_4 a0_5 a0_6 a0_7 a0_8) else (if t338 > a0_6 then (jacquardlaw24_DiophantLarge.j2 kj15 t338 true a0_0 a0_1 a0_2 a0_3 a0_4 a0_5 a0_6 a0_7 a0_8) else ((jacquardref24_Holds.f a0_0 a0_1 a0_2 a0_3 a0_4 a0_5 a0_6 a0_7 a0_8 t337 t338).bind fun t346 => (jacquardlaw24_DiophantLarge.j2 kj15 t338 (!t346) a0_0 a0_1 a0_2 a0_3 a0_4 a0_5 a0_6 a0_7 a0_8)))))) = some r := by rw [if_pos rfl] at H; exact H
                clear H
                have H := H1
                clear H1
                have HC31 := Aside0.mk H
                clear H
                go_upto_region 9 with (fail)
                go_cut [79] (fun v79 wc => ∃ (kq : Nat) (x79_30 : Bool), v79 = .bool x79_30 ∧ Aside0 (jacquardlaw24_DiophantLarge.j2 kq t338 x79_30 a0_0 a0_1 a0_2 a0_3 a0_4 a0_5 a0_6 a0_7 a0_8 = some r) ∧ Aside0 (kq ≤ kj15) ∧ Aside0 (wc.heap[gb333]? = some (.cells #[.int .i64 a0_0, .int .i64 a0_1, .int .i64 a0_2, .int .i64 a0_3, .int .i64 a0_4, .int .i64 a0_5, .int .i64 a0_6, .int .i64 a0_7, .int .i64 a0_8] 31 (0, 0))) ∧ Aside0 (wc.heap[gb343]? = some (.cells #[.int .i64 t340, .int .i64 t341] 46 (0, 0))) ∧ Aside0 (Below w.heap.size w wc))
                case first =>
                  have H := HC31.out
                  clear HC31
                  by_cases c32 : t337 < a0_3
                  · rw [if_pos c32] at H
                    have c32b0 : decide (t337 < a0_3) = true := decide_eq_true c32
                    clear c32
                    (first | rw [c32b0] | (simp only [i64_w, i32_w]; rw [c32b0]) | skip)
                    have H' := Aside0.mk H
                    clear H
                    have hnb33 := NB333_343.out
                    have hnc33 := NB343_333.out
                    have hcz34_0 : wc.cell? ⟨gb333, 0, none⟩ = some (.int .i64 a0_0) := (blk_cell BK333.out 0).trans rfl
                    have hcz34_1 : wc.cell? ⟨gb333, 1, none⟩ = some (.int .i64 a0_1) := (blk_cell BK333.out 1).trans rfl
                    have hcz34_2 : wc.cell? ⟨gb333, 2, none⟩ = some (.int .i64 a0_2) := (blk_cell BK333.out 2).trans rfl
                    have hcz34_3 : wc.cell? ⟨gb333, 3, none⟩ = some (.int .i64 a0_3) := (blk_cell BK333.out 3).trans rfl
                    have hcz34_4 : wc.cell? ⟨gb333, 4, none⟩ = some (.int .i64 a0_4) := (blk_cell BK333.out 4).trans rfl
                    have hcz34_5 : wc.cell? ⟨gb333, 5, none⟩ = some (.int .i64 a0_5) := (blk_cell BK333.out 5).trans rfl
                    have hcz34_6 : wc.cell? ⟨gb333, 6, none⟩ = some (.int .i64 a0_6) := (blk_cell BK333.out 6).trans rfl
                    have hcz34_7 : wc.cell? ⟨gb333, 7, none⟩ = some (.int .i64 a0_7) := (blk_cell BK333.out 7).trans rfl
                    have hcz34_8 : wc.cell? ⟨gb333, 8, none⟩ = some (.int .i64 a0_8) := (blk_cell BK333.out 8).trans rfl
                    have hfz34_0 := blk_frozen BK333.out 0
                    have hfz34_1 := blk_frozen BK333.out 1
                    have hfz34_2 := blk_frozen BK333.out 2
                    have hfz34_3 := blk_frozen BK333.out 3
                    have hfz34_4 := blk_frozen BK333.out 4
                    have hfz34_5 := blk_frozen BK333.out 5
                    have hfz34_6 := blk_frozen BK333.out 6
                    have hfz34_7 := blk_frozen BK333.out 7
                    have hfz34_8 := blk_frozen BK333.out 8
                    go_wp2
                    go_meet
                    case rel => exact ⟨_, (true), (by first | rfl | (simp; done) | (simp [*]; done)), H', ⟨by have := HJ1.out; have := HJ15.out; first | omega | exact Nat.le_refl _⟩, ⟨by (with_reducible repeat (first | refine blk_drewN ?_ _ | refine blk_drew ?_ | refine blk_alloc ?_ _)); exact BK333.out⟩, ⟨by (with_reducible repeat (first | refine blk_drewN ?_ _ | refine blk_drew ?_ | refine blk_alloc ?_ _)); exact BK343.out⟩, ⟨by repeat (first | (with_reducible first | exact HB.out | apply below_alloc | apply pw_below_drewN | apply below_drew1 | refine below_set ?_ GE333.out | refine below_set ?_ GE343.out) | exact HB.out)⟩⟩
                  · rw [if_neg c32] at H
                    have c32b0 : decide (t337 < a0_3) = false := decide_eq_false c32
                    clear c32
                    (first | rw [c32b0] | (simp only [i64_w, i32_w]; rw [c32b0]) | skip)
                    by_cases c35 : t337 > a0_4
                    · rw [if_pos c35] at H
                      have c35b0 : decide (a0_4 < t337) = true := decide_eq_true c35
                      clear c35
                      have H' := Aside0.mk H
                      clear H
                      have hnb36 := NB333_343.out
                      have hnc36 := NB343_333.out
                      have hcz37_0 : wc.cell? ⟨gb333, 0, none⟩ = some (.int .i64 a0_0) := (blk_cell BK333.out 0).trans rfl
                      have hcz37_1 : wc.cell? ⟨gb333, 1, none⟩ = some (.int .i64 a0_1) := (blk_cell BK333.out 1).trans rfl
                      have hcz37_2 : wc.cell? ⟨gb333, 2, none⟩ = some (.int .i64 a0_2) := (blk_cell BK333.out 2).trans rfl
                      have hcz37_3 : wc.cell? ⟨gb333, 3, none⟩ = some (.int .i64 a0_3) := (blk_cell BK333.out 3).trans rfl
                      have hcz37_4 : wc.cell? ⟨gb333, 4, none⟩ = some (.int .i64 a0_4) := (blk_cell BK333.out 4).trans rfl
                      have hcz37_5 : wc.cell? ⟨gb333, 5, none⟩ = some (.int .i64 a0_5) := (blk_cell BK333.out 5).trans rfl
                      have hcz37_6 : wc.cell? ⟨gb333, 6, none⟩ = some (.int .i64 a0_6) := (blk_cell BK333.out 6).trans rfl
                      have hcz37_7 : wc.cell? ⟨gb333, 7, none⟩ = some (.int .i64 a0_7) := (blk_cell BK333.out 7).trans rfl
                      have hcz37_8 : wc.cell? ⟨gb333, 8, none⟩ = some (.int .i64 a0_8) := (blk_cell BK333.out 8).trans rfl
                      have hfz37_0 := blk_frozen BK333.out 0
                      have hfz37_1 := blk_frozen BK333.out 1
                      have hfz37_2 := blk_frozen BK333.out 2
                      have hfz37_3 := blk_frozen BK333.out 3
                      have hfz37_4 := blk_frozen BK333.out 4
                      have hfz37_5 := blk_frozen BK333.out 5
                      have hfz37_6 := blk_frozen BK333.out 6
                      have hfz37_7 := blk_frozen BK333.out 7
                      have hfz37_8 := blk_frozen BK333.out 8
                      go_wp2
                      go_meet
                      case rel => exact ⟨_, (true), (by first | rfl | (simp; done) | (simp [*]; done)), H', ⟨by have := HJ1.out; have := HJ15.out; first | omega | exact Nat.le_refl _⟩, ⟨by (with_reducible repeat (first | refine blk_drewN ?_ _ | refine blk_drew ?_ | refine blk_alloc ?_ _)); exact BK333.out⟩, ⟨by (with_reducible repeat (first | refine blk_drewN ?_ _ | refine blk_drew ?_ | refine blk_alloc ?_ _)); exact BK343.out⟩, ⟨by repeat (first | (with_reducible first | exact HB.out | apply below_alloc | apply pw_below_drewN | apply below_drew1 | refine below_set ?_ GE333.out | refine below_set ?_ GE343.out) | exact HB.out)⟩⟩
                    · rw [if_neg c35] at H
                      have c35b0 : decide (a0_4 < t337) = false := decide_eq_false c35
                      clear c35
                      by_cases c38 : t338 < a0_5
                      · rw [if_pos c38] at H
                        have c38b0 : decide (t338 < a0_5) = true := decide_eq_true c38
                        clear c38
                        have H' := Aside0.mk H
                        clear H
                        have hnb39 := NB333_343.out
                        have hnc39 := NB343_333.out
                        have hcz40_0 : wc.cell? ⟨gb333, 0, none⟩ = some (.int .i64 a0_0) := (blk_cell BK333.out 0).trans rfl
                        have hcz40_1 : wc.cell? ⟨gb333, 1, none⟩ = some (.int .i64 a0_1) := (blk_cell BK333.out 1).trans rfl
                        have hcz40_2 : wc.cell? ⟨gb333, 2, none⟩ = some (.int .i64 a0_2) := (blk_cell BK333.out 2).trans rfl
                        have hcz40_3 : wc.cell? ⟨gb333, 3, none⟩ = some (.int .i64 a0_3) := (blk_cell BK333.out 3).trans rfl
                        have hcz40_4 : wc.cell? ⟨gb333, 4, none⟩ = some (.int .i64 a0_4) := (blk_cell BK333.out 4).trans rfl
                        have hcz40_5 : wc.cell? ⟨gb333, 5, none⟩ = some (.int .i64 a0_5) := (blk_cell BK333.out 5).trans rfl
                        have hcz40_6 : wc.cell? ⟨gb333, 6, none⟩ = some (.int .i64 a0_6) := (blk_cell BK333.out 6).trans rfl
                        have hcz40_7 : wc.cell? ⟨gb333, 7, none⟩ = some (.int .i64 a0_7) := (blk_cell BK333.out 7).trans rfl
                        have hcz40_8 : wc.cell? ⟨gb333, 8, none⟩ = some (.int .i64 a0_8) := (blk_cell BK333.out 8).trans rfl
                        have hfz40_0 := blk_frozen BK333.out 0
                        have hfz40_1 := blk_frozen BK333.out 1
                        have hfz40_2 := blk_frozen BK333.out 2
                        have hfz40_3 := blk_frozen BK333.out 3
                        have hfz40_4 := blk_frozen BK333.out 4
                        have hfz40_5 := blk_frozen BK333.out 5
                        have hfz40_6 := blk_frozen BK333.out 6
                        have hfz40_7 := blk_frozen BK333.out 7
                        have hfz40_8 := blk_frozen BK333.out 8
                        go_wp2
                        go_meet
                        case rel => exact ⟨_, (true), (by first | rfl | (simp; done) | (simp [*]; done)), H', ⟨by have := HJ1.out; have := HJ15.out; first | omega | exact Nat.le_refl _⟩, ⟨by (with_reducible repeat (first | refine blk_drewN ?_ _ | refine blk_drew ?_ | refine blk_alloc ?_ _)); exact BK333.out⟩, ⟨by (with_reducible repeat (first | refine blk_drewN ?_ _ | refine blk_drew ?_ | refine blk_alloc ?_ _)); exact BK343.out⟩, ⟨by repeat (first | (with_reducible first | exact HB.out | apply below_alloc | apply pw_below_drewN | apply below_drew1 | refine below_set ?_ GE333.out | refine below_set ?_ GE343.out) | exact HB.out)⟩⟩
                      · rw [if_neg c38] at H
                        have c38b0 : decide (t338 < a0_5) = false := decide_eq_false c38
                        clear c38
                        by_cases c41 : t338 > a0_6
                        · rw [if_pos c41] at H
                          have c41b0 : decide (a0_6 < t338) = true := decide_eq_true c41
                          clear c41
                          have H' := Aside0.mk H
                          clear H
                          have hnb42 := NB333_343.out
                          have hnc42 := NB343_333.out
                          have hcz43_0 : wc.cell? ⟨gb333, 0, none⟩ = some (.int .i64 a0_0) := (blk_cell BK333.out 0).trans rfl
                          have hcz43_1 : wc.cell? ⟨gb333, 1, none⟩ = some (.int .i64 a0_1) := (blk_cell BK333.out 1).trans rfl
                          have hcz43_2 : wc.cell? ⟨gb333, 2, none⟩ = some (.int .i64 a0_2) := (blk_cell BK333.out 2).trans rfl
                          have hcz43_3 : wc.cell? ⟨gb333, 3, none⟩ = some (.int .i64 a0_3) := (blk_cell BK333.out 3).trans rfl
                          have hcz43_4 : wc.cell? ⟨gb333, 4, none⟩ = some (.int .i64 a0_4) := (blk_cell BK333.out 4).trans rfl
                          have hcz43_5 : wc.cell? ⟨gb333, 5, none⟩ = some (.int .i64 a0_5) := (blk_cell BK333.out 5).trans rfl
                          have hcz43_6 : wc.cell? ⟨gb333, 6, none⟩ = some (.int .i64 a0_6) := (blk_cell BK333.out 6).trans rfl
                          have hcz43_7 : wc.cell? ⟨gb333, 7, none⟩ = some (.int .i64 a0_7) := (blk_cell BK333.out 7).trans rfl
                          have hcz43_8 : wc.cell? ⟨gb333, 8, none⟩ = some (.int .i64 a0_8) := (blk_cell BK333.out 8).trans rfl
                          have hfz43_0 := blk_frozen BK333.out 0
                          have hfz43_1 := blk_frozen BK333.out 1
                          have hfz43_2 := blk_frozen BK333.out 2
                          have hfz43_3 := blk_frozen BK333.out 3
                          have hfz43_4 := blk_frozen BK333.out 4
                          have hfz43_5 := blk_frozen BK333.out 5
                          have hfz43_6 := blk_frozen BK333.out 6
                          have hfz43_7 := blk_frozen BK333.out 7
                          have hfz43_8 := blk_frozen BK333.out 8
                          go_wp2
                          go_meet
                          case rel => exact ⟨_, (true), (by first | rfl | (simp; done) | (simp [*]; done)), H', ⟨by have := HJ1.out; have := HJ15.out; first | omega | exact Nat.le_refl _⟩, ⟨by (with_reducible repeat (first | refine blk_drewN ?_ _ | refine blk_drew ?_ | refine blk_alloc ?_ _)); exact BK333.out⟩, ⟨by (with_reducible repeat (first | refine blk_drewN ?_ _ | refine blk_drew ?_ | refine blk_alloc ?_ _)); exact BK343.out⟩, ⟨by repeat (first | (with_reducible first | exact HB.out | apply below_alloc | apply pw_below_drewN | apply below_drew1 | refine below_set ?_ GE333.out | refine below_set ?_ GE343.out) | exact HB.out)⟩⟩
                        · rw [if_neg c41] at H
                          have c41b0 : decide (a0_6 < t338) = false := decide_eq_false c41
                          clear c41
                          replace H := Option.bind_eq_some_iff.mp H
                          obtain ⟨t346, A440, H⟩ := H
                          replace H : (jacquardlaw24_DiophantLarge.j2 kj15 t338 (!t346) a0_0 a0_1 a0_2 a0_3 a0_4 a0_5 a0_6 a0_7 a0_8) = some r := H
                          have A44 := Aside0.mk A440
                          clear A440
                          have H' := Aside0.mk H
                          clear H
                          have hnb45 := NB333_343.out
                          have hnc45 := NB343_333.out
                          have hcz46_0 : wc.cell? ⟨gb333, 0, none⟩ = some (.int .i64 a0_0) := (blk_cell BK333.out 0).trans rfl
                          have hcz46_1 : wc.cell? ⟨gb333, 1, none⟩ = some (.int .i64 a0_1) := (blk_cell BK333.out 1).trans rfl
                          have hcz46_2 : wc.cell? ⟨gb333, 2, none⟩ = some (.int .i64 a0_2) := (blk_cell BK333.out 2).trans rfl
                          have hcz46_3 : wc.cell? ⟨gb333, 3, none⟩ = some (.int .i64 a0_3) := (blk_cell BK333.out 3).trans rfl
                          have hcz46_4 : wc.cell? ⟨gb333, 4, none⟩ = some (.int .i64 a0_4) := (blk_cell BK333.out 4).trans rfl
                          have hcz46_5 : wc.cell? ⟨gb333, 5, none⟩ = some (.int .i64 a0_5) := (blk_cell BK333.out 5).trans rfl
                          have hcz46_6 : wc.cell? ⟨gb333, 6, none⟩ = some (.int .i64 a0_6) := (blk_cell BK333.out 6).trans rfl
                          have hcz46_7 : wc.cell? ⟨gb333, 7, none⟩ = some (.int .i64 a0_7) := (blk_cell BK333.out 7).trans rfl
                          have hcz46_8 : wc.cell? ⟨gb333, 8, none⟩ = some (.int .i64 a0_8) := (blk_cell BK333.out 8).trans rfl
                          have hfz46_0 := blk_frozen BK333.out 0
                          have hfz46_1 := blk_frozen BK333.out 1
                          have hfz46_2 := blk_frozen BK333.out 2
                          have hfz46_3 := blk_frozen BK333.out 3
                          have hfz46_4 := blk_frozen BK333.out 4
                          have hfz46_5 := blk_frozen BK333.out 5
                          have hfz46_6 := blk_frozen BK333.out 6
                          have hfz46_7 := blk_frozen BK333.out 7
                          have hfz46_8 := blk_frozen BK333.out 8
                          go_wp2_with (first | (go_at_call 27; (with_reducible refine (jacquardref24_Holds.calls a0_0 a0_1 a0_2 a0_3 a0_4 a0_5 a0_6 a0_7 a0_8 t337 t338 t346 _ A44.out).mono ?_); rintro e w47 ⟨rfl, hb⟩; have n0_ := Aside0.mk (blk_below (g := gb333) (by (with_reducible repeat (first | refine blk_drewN ?_ _ | refine blk_drew ?_ | refine blk_alloc ?_ _)); exact BK333.out) hb); have n1_ := Aside0.mk (blk_below (g := gb343) (by (with_reducible repeat (first | refine blk_drewN ?_ _ | refine blk_drew ?_ | refine blk_alloc ?_ _)); exact BK343.out) hb); have n2_ := Aside0.mk (below_step (by repeat (first | (with_reducible first | exact HB.out | apply below_alloc | apply pw_below_drewN | apply below_drew1 | refine below_set ?_ GE333.out | refine below_set ?_ GE343.out) | exact HB.out)) hb); clear BK333; clear BK343; clear HB; have BK333 := n0_; have BK343 := n1_; have HB := n2_; clear n0_ n1_ n2_; (try clear hb); (try clear hb2); (try clear hk); (try clear hi)))
                          go_meet
                          case rel => exact ⟨_, (!t346), (by first | rfl | (simp; done) | (simp [*]; done)), H', ⟨by have := HJ1.out; have := HJ15.out; first | omega | exact Nat.le_refl _⟩, ⟨by (with_reducible repeat (first | refine blk_drewN ?_ _ | refine blk_drew ?_ | refine blk_alloc ?_ _)); exact BK333.out⟩, ⟨by (with_reducible repeat (first | refine blk_drewN ?_ _ | refine blk_drew ?_ | refine blk_alloc ?_ _)); exact BK343.out⟩, ⟨by repeat (first | (with_reducible first | exact HB.out | apply below_alloc | apply pw_below_drewN | apply below_drew1 | refine below_set ?_ GE333.out | refine below_set ?_ GE343.out) | exact HB.out)⟩⟩
                case rest =>
                  clear HC31
                  try clear c1
                  try clear c2
                  try clear p2
                  try clear c3
                  try clear c4
                  try clear c5
                  try clear c10
                  try clear c11
                  try clear c19
                  try clear c22
                  try clear c24
                  try clear c24b0
                  try clear c24b1
                  try clear c24b2
                  try clear c25
                  try clear c26
                  try clear c29
                  try clear c30
                  try clear c32
                  try clear c32b0
                  try clear c33
                  try clear c35
                  try clear c35b0
                  try clear c36
                  try clear c38
                  try clear c38b0
                  try clear c39
                  try clear c41
                  try clear c41b0
                  try clear c42
                  try clear c45
                  try clear hcz17_0
                  try clear hcz17_1
                  try clear hcz17_2
                  try clear hcz17_3
                  try clear hcz17_4
                  try clear hcz17_5
                  try clear hcz17_6
                  try clear hcz17_7
                  try clear hcz17_8
                  try clear hcz19_0
                  try clear hcz19_1
                  try clear hcz19_2
                  try clear hcz19_3
                  try clear hcz19_4
                  try clear hcz19_5
                  try clear hcz19_6
                  try clear hcz19_7
                  try clear hcz19_8
                  try clear hcz23_0
                  try clear hcz23_1
                  try clear hcz27_0
                  try clear hcz27_1
                  try clear hcz27_2
                  try clear hcz27_3
                  try clear hcz27_4
                  try clear hcz27_5
                  try clear hcz27_6
                  try clear hcz27_7
                  try clear hcz27_8
                  try clear hcz34_0
                  try clear hcz34_1
                  try clear hcz34_2
                  try clear hcz34_3
                  try clear hcz34_4
                  try clear hcz34_5
                  try clear hcz34_6
                  try clear hcz34_7
                  try clear hcz34_8
                  try clear hcz37_0
                  try clear hcz37_1
                  try clear hcz37_2
                  try clear hcz37_3
                  try clear hcz37_4
                  try clear hcz37_5
                  try clear hcz37_6
                  try clear hcz37_7
                  try clear hcz37_8
                  try clear hcz40_0
                  try clear hcz40_1
                  try clear hcz40_2
                  try clear hcz40_3
                  try clear hcz40_4
                  try clear hcz40_5
                  try clear hcz40_6
                  try clear hcz40_7
                  try clear hcz40_8
                  try clear hcz43_0
                  try clear hcz43_1
                  try clear hcz43_2
                  try clear hcz43_3
                  try clear hcz43_4
                  try clear hcz43_5
                  try clear hcz43_6
                  try clear hcz43_7
                  try clear hcz43_8
                  try clear hcz46_0
                  try clear hcz46_1
                  try clear hcz46_2
                  try clear hcz46_3
                  try clear hcz46_4
                  try clear hcz46_5
                  try clear hcz46_6
                  try clear hcz46_7
                  try clear hcz46_8
                  try clear hcz8_0
                  try clear hcz8_1
                  try clear hcz8_2
                  try clear hcz8_3
                  try clear hcz8_4
                  try clear hcz8_5
                  try clear hcz8_6
                  try clear hcz8_7
                  try clear hcz8_8
                  try clear hfz17_0
                  try clear hfz17_1
                  try clear hfz17_2
                  try clear hfz17_3
                  try clear hfz17_4
                  try clear hfz17_5
                  try clear hfz17_6
                  try clear hfz17_7
                  try clear hfz17_8
                  try clear hfz19_0
                  try clear hfz19_1
                  try clear hfz19_2
                  try clear hfz19_3
                  try clear hfz19_4
                  try clear hfz19_5
                  try clear hfz19_6
                  try clear hfz19_7
                  try clear hfz19_8
                  try clear hfz23_0
                  try clear hfz23_1
                  try clear hfz27_0
                  try clear hfz27_1
                  try clear hfz27_2
                  try clear hfz27_3
                  try clear hfz27_4
                  try clear hfz27_5
                  try clear hfz27_6
                  try clear hfz27_7
                  try clear hfz27_8
                  try clear hfz34_0
                  try clear hfz34_1
                  try clear hfz34_2
                  try clear hfz34_3
                  try clear hfz34_4
                  try clear hfz34_5
                  try clear hfz34_6
                  try clear hfz34_7
                  try clear hfz34_8
                  try clear hfz37_0
                  try clear hfz37_1
                  try clear hfz37_2
                  try clear hfz37_3
                  try clear hfz37_4
                  try clear hfz37_5
                  try clear hfz37_6
                  try clear hfz37_7
                  try clear hfz37_8
                  try clear hfz40_0
                  try clear hfz40_1
                  try clear hfz40_2
                  try clear hfz40_3
                  try clear hfz40_4
                  try clear hfz40_5
                  try clear hfz40_6
                  try clear hfz40_7
                  try clear hfz40_8
                  try clear hfz43_0
                  try clear hfz43_1
                  try clear hfz43_2
                  try clear hfz43_3
                  try clear hfz43_4
                  try clear hfz43_5
                  try clear hfz43_6
                  try clear hfz43_7
                  try clear hfz43_8
                  try clear hfz46_0
                  try clear hfz46_1
                  try clear hfz46_2
                  try clear hfz46_3
                  try clear hfz46_4
                  try clear hfz46_5
                  try clear hfz46_6
                  try clear hfz46_7
                  try clear hfz46_8
                  try clear hfz8_0
                  try clear hfz8_1
                  try clear hfz8_2
                  try clear hfz8_3
                  try clear hfz8_4
                  try clear hfz8_5
                  try clear hfz8_6
                  try clear hfz8_7
                  try clear hfz8_8
                  try clear p2
                  obtain ⟨kq, x79_30, rfl, HA, HJ30, BK333, BK343, HB⟩ := hcut
                  cases kq with
                  | zero => exact absurd HA.out (by simp [jacquardlaw24_DiophantLarge.j2])
                  | succ kj30 =>
                    have H := HA.out
                    clear HA
                    simp only [jacquardlaw24_DiophantLarge.j2] at H
                    by_cases c48 : x79_30 = true
                    · subst c48
                      have H1 : (some false) = some r := by rw [if_pos rfl] at H; exact H
                      clear H
                      have H := H1
                      clear H1
                      obtain rfl := Option.some.inj H
                      go_wp2
                      go_ret
                      exact ⟨by first | rfl | (simp [errW_none, errW_some] <;> rfl) | (simp [*, errW_none, errW_some] <;> rfl), by repeat (first | (with_reducible first | exact HB.out | apply below_alloc | apply pw_below_drewN | apply below_drew1 | refine below_set ?_ GE333.out | refine below_set ?_ GE343.out) | exact HB.out)⟩
                    · replace c48 := Bool.eq_false_iff.mpr c48
                      subst c48
                      have H1 : (if t338 ≤ (-2147483648) then (some true) else ((diophant_Solve.f kj30 a0_0 a0_1 a0_2 a0_3 a0_4 a0_5 (wrap64 (t338 - 1)) a0_7 a0_8).bind fun bt347 => ((diophant_Refuse.f kj30 a0_0 a0_1 a0_2 a0_3 a0_4 a0_5 (wrap64 (t338 - 1)) a0_7 a0_8).bind fun bt350 => (if bt347.2.2 = true then (some false) else (if bt350.2.2 = true then ((diophant_Check.f kj30 a0_0 a0_1 a0_2 a0_3 a0_4 a0_5 (wrap64 (t338 - 1)) a0_7 a0_8 bt350.1 bt350.2.1).bind fun t354 => (some t354)) else (some false)))))) = some r := by rw [if_neg (show ¬ (false = true) by decide)] at H; exact H
                      clear H
                      have H := H1
                      clear H1
                      by_cases c49 : t338 ≤ (-2147483648)
                      · rw [if_pos c49] at H
                        have c49b0 : decide (t338 ≤ (-2147483648)) = true := decide_eq_true c49
                        clear c49
                        obtain rfl := Option.some.inj H
                        go_wp2
                        go_ret
                        exact ⟨by first | rfl | (simp [errW_none, errW_some] <;> rfl) | (simp [*, errW_none, errW_some] <;> rfl), by repeat (first | (with_reducible first | exact HB.out | apply below_alloc | apply pw_below_drewN | apply below_drew1 | refine below_set ?_ GE333.out | refine below_set ?_ GE343.out) | exact HB.out)⟩
                      · rw [if_neg c49] at H
                        have c49b0 : decide (t338 ≤ (-2147483648)) = false := decide_eq_false c49
                        clear c49
                        replace H := Option.bind_eq_some_iff.mp H
                        obtain ⟨⟨t347, t348, t349⟩, A500, H⟩ := H
                        replace H : ((diophant_Refuse.f kj30 a0_0 a0_1 a0_2 a0_3 a0_4 a0_5 (wrap64 (t338 - 1)) a0_7 a0_8).bind fun bt350 => (if t349 = true then (some false) else (if bt350.2.2 = true then ((diophant_Check.f kj30 a0_0 a0_1 a0_2 a0_3 a0_4 a0_5 (wrap64 (t338 - 1)) a0_7 a0_8 bt350.1 bt350.2.1).bind fun t354 => (some t354)) else (some false)))) = some r := H
                        have A50 := Aside0.mk A500
                        clear A500
                        replace H := Option.bind_eq_some_iff.mp H
                        obtain ⟨⟨t350, t351, t352⟩, A510, H⟩ := H
                        replace H : (if t349 = true then (some false) else (if t352 = true then ((diophant_Check.f kj30 a0_0 a0_1 a0_2 a0_3 a0_4 a0_5 (wrap64 (t338 - 1)) a0_7 a0_8 t350 t351).bind fun t354 => (some t354)) else (some false))) = some r := H
                        have A51 := Aside0.mk A510
                        clear A510
                        by_cases c52 : t349 = true
                        · subst c52
                          have H1 : (some false) = some r := by rw [if_pos rfl] at H; exact H
                          clear H
                          have H := H1
                          clear H1
                          obtain rfl := Option.some.inj H
                          have hnb53 := NB333_343.out
                          have hnc53 := NB343_333.out
                          have hcz54_0 : wc.cell? ⟨gb333, 0, none⟩ = some (.int .i64 a0_0) := (blk_cell BK333.out 0).trans rfl
                          have hcz54_1 : wc.cell? ⟨gb333, 1, none⟩ = some (.int .i64 a0_1) := (blk_cell BK333.out 1).trans rfl
                          have hcz54_2 : wc.cell? ⟨gb333, 2, none⟩ = some (.int .i64 a0_2) := (blk_cell BK333.out 2).trans rfl
                          have hcz54_3 : wc.cell? ⟨gb333, 3, none⟩ = some (.int .i64 a0_3) := (blk_cell BK333.out 3).trans rfl
                          have hcz54_4 : wc.cell? ⟨gb333, 4, none⟩ = some (.int .i64 a0_4) := (blk_cell BK333.out 4).trans rfl
                          have hcz54_5 : wc.cell? ⟨gb333, 5, none⟩ = some (.int .i64 a0_5) := (blk_cell BK333.out 5).trans rfl
                          have hcz54_6 : wc.cell? ⟨gb333, 6, none⟩ = some (.int .i64 a0_6) := (blk_cell BK333.out 6).trans rfl
                          have hcz54_7 : wc.cell? ⟨gb333, 7, none⟩ = some (.int .i64 a0_7) := (blk_cell BK333.out 7).trans rfl
                          have hcz54_8 : wc.cell? ⟨gb333, 8, none⟩ = some (.int .i64 a0_8) := (blk_cell BK333.out 8).trans rfl
                          have hfz54_0 := blk_frozen BK333.out 0
                          have hfz54_1 := blk_frozen BK333.out 1
                          have hfz54_2 := blk_frozen BK333.out 2
                          have hfz54_3 := blk_frozen BK333.out 3
                          have hfz54_4 := blk_frozen BK333.out 4
                          have hfz54_5 := blk_frozen BK333.out 5
                          have hfz54_6 := blk_frozen BK333.out 6
                          have hfz54_7 := blk_frozen BK333.out 7
                          have hfz54_8 := blk_frozen BK333.out 8
                          go_wp2_with (first | ((with_reducible refine gate_callee (f := 19) rfl ?_); refine goesL_ (some 88) rfl rfl Try.func19 (by kernel_rfl) rfl #[.agg #[.int .i64 a0_0, .int .i64 a0_1, .int .i64 a0_2, .int .i64 a0_3, .int .i64 a0_4, .int .i64 a0_5, .int .i64 (wrap64 (t338 - 1)), .int .i64 a0_7, .int .i64 a0_8]] rfl (by (try simp only [List.map_toArray, List.map_cons, List.map_nil]); first | done | rfl | (simp only [List.length_drop, List.length_take]; rfl)) ?_; (with_reducible refine (diophant_Solve.calls kj30 a0_0 a0_1 a0_2 a0_3 a0_4 a0_5 (wrap64 (t338 - 1)) a0_7 a0_8 t347 t348 true _ A50.out).mono ?_); rintro e w55 ⟨rfl, hb⟩; refine ⟨_, rfl, ?_⟩; have n0_ := Aside0.mk (blk_below (g := gb333) (o := .cells #[.int .i64 a0_0, .int .i64 a0_1, .int .i64 a0_2, .int .i64 a0_3, .int .i64 a0_4, .int .i64 a0_5, .int .i64 (wrap64 (t338 - 1)), .int .i64 a0_7, .int .i64 a0_8] 31 (0, 0)) (by (with_reducible repeat (first | refine blk_drewN ?_ _ | refine blk_drew ?_ | refine blk_alloc ?_ _)); refine blk_put (cs := #[.int .i64 a0_0, .int .i64 a0_1, .int .i64 a0_2, .int .i64 a0_3, .int .i64 a0_4, .int .i64 a0_5, .int .i64 a0_6, .int .i64 a0_7, .int .i64 a0_8]) ?_ 6 _ rfl; (with_reducible repeat (first | refine blk_drewN ?_ _ | refine blk_drew ?_ | refine blk_alloc ?_ _)); exact BK333.out) hb); have n1_ := Aside0.mk (blk_below (g := gb343) (o := .cells #[.int .i64 t340, .int .i64 t341] 46 (0, 0)) (by (with_reducible repeat (first | refine blk_drewN ?_ _ | refine blk_drew ?_ | refine blk_alloc ?_ _)); refine blk_far ?_ NB343_333.out _; (with_reducible repeat (first | refine blk_drewN ?_ _ | refine blk_drew ?_ | refine blk_alloc ?_ _)); exact BK343.out) hb); have n2_ := Aside0.mk (below_step (by repeat (first | (with_reducible first | exact HB.out | apply below_alloc | apply pw_below_drewN | apply below_drew1 | refine below_set ?_ GE333.out | refine below_set ?_ GE343.out) | exact HB.out)) hb); clear BK333; clear BK343; clear HB; have BK333 := n0_; have BK343 := n1_; have HB := n2_; clear n0_ n1_ n2_; (try clear hb); (try clear hb2); (try clear hk); (try clear hi); obtain ⟨_, _, _, _, _, _, _, _, _⟩ := sq_cells9 BK333.out; obtain ⟨_, _, _, _, _, _, _, _, _⟩ := sq_free9 BK333.out) | ((with_reducible refine gate_callee (f := 25) rfl ?_); refine goesL_ (some 94) rfl rfl Try.func25 (by kernel_rfl) rfl #[.agg #[.int .i64 a0_0, .int .i64 a0_1, .int .i64 a0_2, .int .i64 a0_3, .int .i64 a0_4, .int .i64 a0_5, .int .i64 (wrap64 (t338 - 1)), .int .i64 a0_7, .int .i64 a0_8]] rfl (by (try simp only [List.map_toArray, List.map_cons, List.map_nil]); first | done | rfl | (simp only [List.length_drop, List.length_take]; rfl)) ?_; (with_reducible refine (diophant_Refuse.calls kj30 a0_0 a0_1 a0_2 a0_3 a0_4 a0_5 (wrap64 (t338 - 1)) a0_7 a0_8 t350 t351 t352 _ A51.out).mono ?_); rintro e w57 ⟨rfl, hb⟩; refine ⟨_, rfl, ?_⟩; have n0_ := Aside0.mk (blk_below (g := gb333) (by (with_reducible repeat (first | refine blk_drewN ?_ _ | refine blk_drew ?_ | refine blk_alloc ?_ _)); exact BK333.out) hb); have n1_ := Aside0.mk (blk_below (g := gb343) (by (with_reducible repeat (first | refine blk_drewN ?_ _ | refine blk_drew ?_ | refine blk_alloc ?_ _)); exact BK343.out) hb); have n2_ := Aside0.mk (below_step (by repeat (first | (with_reducible first | exact HB.out | apply below_alloc | apply pw_below_drewN | apply below_drew1 | refine below_set ?_ GE333.out | refine below_set ?_ GE343.out) | exact HB.out)) hb); clear BK333; clear BK343; clear HB; have BK333 := n0_; have BK343 := n1_; have HB := n2_; clear n0_ n1_ n2_; (try clear hb); (try clear hb2); (try clear hk); (try clear hi)) | ((with_reducible refine gate_dst (N := 11) rfl ?_); refine box_event ?hg (N := 11) ?hd (cs := #[.int .i64 0, .int .i64 0]) (t := 46) ?hr ?_; (case hd => rfl); (case hg => rfl); (case hr => first | (go_simp; done) | (go_simp; rfl)); intro gb353 hg w58 hbox hb; have n0_ := Aside0.mk (blk_below (g := gb333) (by (with_reducible repeat (first | refine blk_drewN ?_ _ | refine blk_drew ?_ | refine blk_alloc ?_ _)); exact BK333.out) hb); have n1_ := Aside0.mk (blk_below (g := gb343) (by (with_reducible repeat (first | refine blk_drewN ?_ _ | refine blk_drew ?_ | refine blk_alloc ?_ _)); exact BK343.out) hb); have n2_ := Aside0.mk (below_step (by repeat (first | (with_reducible first | exact HB.out | apply below_alloc | apply pw_below_drewN | apply below_drew1 | refine below_set ?_ GE333.out | refine below_set ?_ GE343.out) | exact HB.out)) hb); have n3_ := Aside0.mk (hbox); have n4_ := Aside0.mk ((by rw [hg]; exact (below_size (by repeat (first | (with_reducible first | exact HB.out | apply below_alloc | apply pw_below_drewN | apply below_drew1 | refine below_set ?_ GE333.out | refine below_set ?_ GE343.out) | exact HB.out))) : w.heap.size ≤ gb353)); have n5_ := Aside0.mk ((by rw [hg]; exact (below_size (by repeat (first | (with_reducible first | exact HB.out | apply below_alloc | apply pw_below_drewN | apply below_drew1 | refine below_set ?_ GE333.out | refine below_set ?_ GE343.out) | exact HB.out))) : w.heap.size ≤ gb353)); have n6_ := Aside0.mk ((by rw [hg]; exact Nat.ne_of_lt (blk_lt (g := gb333) (by (with_reducible repeat (first | refine blk_drewN ?_ _ | refine blk_drew ?_ | refine blk_alloc ?_ _)); exact BK333.out)) : gb333 ≠ gb353)); have n7_ := Aside0.mk ((by rw [hg]; exact Nat.ne_of_gt (blk_lt (g := gb333) (by (with_reducible repeat (first | refine blk_drewN ?_ _ | refine blk_drew ?_ | refine blk_alloc ?_ _)); exact BK333.out)) : gb353 ≠ gb333)); have n8_ := Aside0.mk ((by rw [hg]; exact Nat.ne_of_lt (blk_lt (g := gb343) (by (with_reducible repeat (first | refine blk_drewN ?_ _ | refine blk_drew ?_ | refine blk_alloc ?_ _)); exact BK343.out)) : gb343 ≠ gb353)); have n9_ := Aside0.mk ((by rw [hg]; exact Nat.ne_of_gt (blk_lt (g := gb343) (by (with_reducible repeat (first | refine blk_drewN ?_ _ | refine blk_drew ?_ | refine blk_alloc ?_ _)); exact BK343.out)) : gb353 ≠ gb343)); clear BK333; clear BK343; clear HB; have BK333 := n0_; have BK343 := n1_; have HB := n2_; have BK353 := n3_; have GW353 := n4_; have GE353 := n5_; have NB333_353 := n6_; have NB353_333 := n7_; have NB343_353 := n8_; have NB353_343 := n9_; clear n0_ n1_ n2_ n3_ n4_ n5_ n6_ n7_ n8_ n9_; clear hb hbox hg; have hnb59 := NB353_333.out; have hnc59 := NB333_353.out; have hnb60 := NB353_343.out; have hnc60 := NB343_353.out; obtain ⟨_, _⟩ := sq_cells2 BK353.out; obtain ⟨_, _⟩ := sq_free2 BK353.out))
                          go_ret
                          exact ⟨by first | rfl | (simp [errW_none, errW_some] <;> rfl) | (simp [*, errW_none, errW_some] <;> rfl), by repeat (first | (with_reducible first | exact HB.out | apply below_alloc | apply pw_below_drewN | apply below_drew1 | refine below_set ?_ GE333.out | refine below_set ?_ GE343.out | refine below_set ?_ GE353.out) | exact HB.out)⟩
                        · replace c52 := Bool.eq_false_iff.mpr c52
                          subst c52
                          have H1 : (if t352 = true then ((diophant_Check.f kj30 a0_0 a0_1 a0_2 a0_3 a0_4 a0_5 (wrap64 (t338 - 1)) a0_7 a0_8 t350 t351).bind fun t354 => (some t354)) else (some false)) = some r := by rw [if_neg (show ¬ (false = true) by decide)] at H; exact H
                          clear H
                          have H := H1
                          clear H1
                          by_cases c62 : t352 = true
                          · subst c62
                            have H1 : ((diophant_Check.f kj30 a0_0 a0_1 a0_2 a0_3 a0_4 a0_5 (wrap64 (t338 - 1)) a0_7 a0_8 t350 t351).bind fun t354 => (some t354)) = some r := by rw [if_pos rfl] at H; exact H
                            clear H
                            have H := H1
                            clear H1
                            replace H := Option.bind_eq_some_iff.mp H
                            obtain ⟨t354, A630, H⟩ := H
                            replace H : (some t354) = some r := H
                            have A63 := Aside0.mk A630
                            clear A630
                            obtain rfl := Option.some.inj H
                            have hnb64 := NB333_343.out
                            have hnc64 := NB343_333.out
                            have hcz65_0 : wc.cell? ⟨gb333, 0, none⟩ = some (.int .i64 a0_0) := (blk_cell BK333.out 0).trans rfl
                            have hcz65_1 : wc.cell? ⟨gb333, 1, none⟩ = some (.int .i64 a0_1) := (blk_cell BK333.out 1).trans rfl
                            have hcz65_2 : wc.cell? ⟨gb333, 2, none⟩ = some (.int .i64 a0_2) := (blk_cell BK333.out 2).trans rfl
                            have hcz65_3 : wc.cell? ⟨gb333, 3, none⟩ = some (.int .i64 a0_3) := (blk_cell BK333.out 3).trans rfl
                            have hcz65_4 : wc.cell? ⟨gb333, 4, none⟩ = some (.int .i64 a0_4) := (blk_cell BK333.out 4).trans rfl
                            have hcz65_5 : wc.cell? ⟨gb333, 5, none⟩ = some (.int .i64 a0_5) := (blk_cell BK333.out 5).trans rfl
                            have hcz65_6 : wc.cell? ⟨gb333, 6, none⟩ = some (.int .i64 a0_6) := (blk_cell BK333.out 6).trans rfl
                            have hcz65_7 : wc.cell? ⟨gb333, 7, none⟩ = some (.int .i64 a0_7) := (blk_cell BK333.out 7).trans rfl
                            have hcz65_8 : wc.cell? ⟨gb333, 8, none⟩ = some (.int .i64 a0_8) := (blk_cell BK333.out 8).trans rfl
                            have hfz65_0 := blk_frozen BK333.out 0
                            have hfz65_1 := blk_frozen BK333.out 1
                            have hfz65_2 := blk_frozen BK333.out 2
                            have hfz65_3 := blk_frozen BK333.out 3
                            have hfz65_4 := blk_frozen BK333.out 4
                            have hfz65_5 := blk_frozen BK333.out 5
                            have hfz65_6 := blk_frozen BK333.out 6
                            have hfz65_7 := blk_frozen BK333.out 7
                            have hfz65_8 := blk_frozen BK333.out 8
                            go_wp2_with (first | ((with_reducible refine gate_callee (f := 19) rfl ?_); refine goesL_ (some 88) rfl rfl Try.func19 (by kernel_rfl) rfl #[.agg #[.int .i64 a0_0, .int .i64 a0_1, .int .i64 a0_2, .int .i64 a0_3, .int .i64 a0_4, .int .i64 a0_5, .int .i64 (wrap64 (t338 - 1)), .int .i64 a0_7, .int .i64 a0_8]] rfl (by (try simp only [List.map_toArray, List.map_cons, List.map_nil]); first | done | rfl | (simp only [List.length_drop, List.length_take]; rfl)) ?_; (with_reducible refine (diophant_Solve.calls kj30 a0_0 a0_1 a0_2 a0_3 a0_4 a0_5 (wrap64 (t338 - 1)) a0_7 a0_8 t347 t348 false _ A50.out).mono ?_); rintro e w66 ⟨rfl, hb⟩; refine ⟨_, rfl, ?_⟩; have n0_ := Aside0.mk (blk_below (g := gb333) (o := .cells #[.int .i64 a0_0, .int .i64 a0_1, .int .i64 a0_2, .int .i64 a0_3, .int .i64 a0_4, .int .i64 a0_5, .int .i64 (wrap64 (t338 - 1)), .int .i64 a0_7, .int .i64 a0_8] 31 (0, 0)) (by (with_reducible repeat (first | refine blk_drewN ?_ _ | refine blk_drew ?_ | refine blk_alloc ?_ _)); refine blk_put (cs := #[.int .i64 a0_0, .int .i64 a0_1, .int .i64 a0_2, .int .i64 a0_3, .int .i64 a0_4, .int .i64 a0_5, .int .i64 a0_6, .int .i64 a0_7, .int .i64 a0_8]) ?_ 6 _ rfl; (with_reducible repeat (first | refine blk_drewN ?_ _ | refine blk_drew ?_ | refine blk_alloc ?_ _)); exact BK333.out) hb); have n1_ := Aside0.mk (blk_below (g := gb343) (o := .cells #[.int .i64 t340, .int .i64 t341] 46 (0, 0)) (by (with_reducible repeat (first | refine blk_drewN ?_ _ | refine blk_drew ?_ | refine blk_alloc ?_ _)); refine blk_far ?_ NB343_333.out _; (with_reducible repeat (first | refine blk_drewN ?_ _ | refine blk_drew ?_ | refine blk_alloc ?_ _)); exact BK343.out) hb); have n2_ := Aside0.mk (below_step (by repeat (first | (with_reducible first | exact HB.out | apply below_alloc | apply pw_below_drewN | apply below_drew1 | refine below_set ?_ GE333.out | refine below_set ?_ GE343.out) | exact HB.out)) hb); clear BK333; clear BK343; clear HB; have BK333 := n0_; have BK343 := n1_; have HB := n2_; clear n0_ n1_ n2_; (try clear hb); (try clear hb2); (try clear hk); (try clear hi); obtain ⟨_, _, _, _, _, _, _, _, _⟩ := sq_cells9 BK333.out; obtain ⟨_, _, _, _, _, _, _, _, _⟩ := sq_free9 BK333.out) | ((with_reducible refine gate_callee (f := 25) rfl ?_); refine goesL_ (some 94) rfl rfl Try.func25 (by kernel_rfl) rfl #[.agg #[.int .i64 a0_0, .int .i64 a0_1, .int .i64 a0_2, .int .i64 a0_3, .int .i64 a0_4, .int .i64 a0_5, .int .i64 (wrap64 (t338 - 1)), .int .i64 a0_7, .int .i64 a0_8]] rfl (by (try simp only [List.map_toArray, List.map_cons, List.map_nil]); first | done | rfl | (simp only [List.length_drop, List.length_take]; rfl)) ?_; (with_reducible refine (diophant_Refuse.calls kj30 a0_0 a0_1 a0_2 a0_3 a0_4 a0_5 (wrap64 (t338 - 1)) a0_7 a0_8 t350 t351 true _ A51.out).mono ?_); rintro e w68 ⟨rfl, hb⟩; refine ⟨_, rfl, ?_⟩; have n0_ := Aside0.mk (blk_below (g := gb333) (by (with_reducible repeat (first | refine blk_drewN ?_ _ | refine blk_drew ?_ | refine blk_alloc ?_ _)); exact BK333.out) hb); have n1_ := Aside0.mk (blk_below (g := gb343) (by (with_reducible repeat (first | refine blk_drewN ?_ _ | refine blk_drew ?_ | refine blk_alloc ?_ _)); exact BK343.out) hb); have n2_ := Aside0.mk (below_step (by repeat (first | (with_reducible first | exact HB.out | apply below_alloc | apply pw_below_drewN | apply below_drew1 | refine below_set ?_ GE333.out | refine below_set ?_ GE343.out) | exact HB.out)) hb); clear BK333; clear BK343; clear HB; have BK333 := n0_; have BK343 := n1_; have HB := n2_; clear n0_ n1_ n2_; (try clear hb); (try clear hb2); (try clear hk); (try clear hi)) | ((with_reducible refine gate_dst (N := 11) rfl ?_); refine box_event ?hg (N := 11) ?hd (cs := #[.int .i64 0, .int .i64 0]) (t := 46) ?hr ?_; (case hd => rfl); (case hg => rfl); (case hr => first | (go_simp; done) | (go_simp; rfl)); intro gb353 hg w69 hbox hb; have n0_ := Aside0.mk (blk_below (g := gb333) (by (with_reducible repeat (first | refine blk_drewN ?_ _ | refine blk_drew ?_ | refine blk_alloc ?_ _)); exact BK333.out) hb); have n1_ := Aside0.mk (blk_below (g := gb343) (by (with_reducible repeat (first | refine blk_drewN ?_ _ | refine blk_drew ?_ | refine blk_alloc ?_ _)); exact BK343.out) hb); have n2_ := Aside0.mk (below_step (by repeat (first | (with_reducible first | exact HB.out | apply below_alloc | apply pw_below_drewN | apply below_drew1 | refine below_set ?_ GE333.out | refine below_set ?_ GE343.out) | exact HB.out)) hb); have n3_ := Aside0.mk (hbox); have n4_ := Aside0.mk ((by rw [hg]; exact (below_size (by repeat (first | (with_reducible first | exact HB.out | apply below_alloc | apply pw_below_drewN | apply below_drew1 | refine below_set ?_ GE333.out | refine below_set ?_ GE343.out) | exact HB.out))) : w.heap.size ≤ gb353)); have n5_ := Aside0.mk ((by rw [hg]; exact (below_size (by repeat (first | (with_reducible first | exact HB.out | apply below_alloc | apply pw_below_drewN | apply below_drew1 | refine below_set ?_ GE333.out | refine below_set ?_ GE343.out) | exact HB.out))) : w.heap.size ≤ gb353)); have n6_ := Aside0.mk ((by rw [hg]; exact Nat.ne_of_lt (blk_lt (g := gb333) (by (with_reducible repeat (first | refine blk_drewN ?_ _ | refine blk_drew ?_ | refine blk_alloc ?_ _)); exact BK333.out)) : gb333 ≠ gb353)); have n7_ := Aside0.mk ((by rw [hg]; exact Nat.ne_of_gt (blk_lt (g := gb333) (by (with_reducible repeat (first | refine blk_drewN ?_ _ | refine blk_drew ?_ | refine blk_alloc ?_ _)); exact BK333.out)) : gb353 ≠ gb333)); have n8_ := Aside0.mk ((by rw [hg]; exact Nat.ne_of_lt (blk_lt (g := gb343) (by (with_reducible repeat (first | refine blk_drewN ?_ _ | refine blk_drew ?_ | refine blk_alloc ?_ _)); exact BK343.out)) : gb343 ≠ gb353)); have n9_ := Aside0.mk ((by rw [hg]; exact Nat.ne_of_gt (blk_lt (g := gb343) (by (with_reducible repeat (first | refine blk_drewN ?_ _ | refine blk_drew ?_ | refine blk_alloc ?_ _)); exact BK343.out)) : gb353 ≠ gb343)); clear BK333; clear BK343; clear HB; have BK333 := n0_; have BK343 := n1_; have HB := n2_; have BK353 := n3_; have GW353 := n4_; have GE353 := n5_; have NB333_353 := n6_; have NB353_333 := n7_; have NB343_353 := n8_; have NB353_343 := n9_; clear n0_ n1_ n2_ n3_ n4_ n5_ n6_ n7_ n8_ n9_; clear hb hbox hg; have hnb70 := NB353_333.out; have hnc70 := NB333_353.out; have hnb71 := NB353_343.out; have hnc71 := NB343_353.out; obtain ⟨_, _⟩ := sq_cells2 BK353.out; obtain ⟨_, _⟩ := sq_free2 BK353.out; obtain ⟨_, _, _, _, _, _, _, _, _⟩ := sq_cells9 BK333.out; obtain ⟨_, _, _, _, _, _, _, _, _⟩ := sq_free9 BK333.out) | (go_at_call 22; (with_reducible refine (diophant_Check.calls kj30 a0_0 a0_1 a0_2 a0_3 a0_4 a0_5 (wrap64 (t338 - 1)) a0_7 a0_8 t350 t351 t354 _ A63.out).mono ?_); rintro e w74 ⟨rfl, hb⟩; have n0_ := Aside0.mk (blk_below (g := gb333) (o := .cells #[.int .i64 a0_0, .int .i64 a0_1, .int .i64 a0_2, .int .i64 a0_3, .int .i64 a0_4, .int .i64 a0_5, .int .i64 (wrap64 (t338 - 1)), .int .i64 a0_7, .int .i64 a0_8] 31 (0, 0)) (by (with_reducible repeat (first | refine blk_drewN ?_ _ | refine blk_drew ?_ | refine blk_alloc ?_ _)); refine blk_far ?_ NB333_353.out _; (with_reducible repeat (first | refine blk_drewN ?_ _ | refine blk_drew ?_ | refine blk_alloc ?_ _)); refine blk_far ?_ NB333_353.out _; (with_reducible repeat (first | refine blk_drewN ?_ _ | refine blk_drew ?_ | refine blk_alloc ?_ _)); exact BK333.out) hb); have n1_ := Aside0.mk (blk_below (g := gb343) (o := .cells #[.int .i64 t340, .int .i64 t341] 46 (0, 0)) (by (with_reducible repeat (first | refine blk_drewN ?_ _ | refine blk_drew ?_ | refine blk_alloc ?_ _)); refine blk_far ?_ NB343_353.out _; (with_reducible repeat (first | refine blk_drewN ?_ _ | refine blk_drew ?_ | refine blk_alloc ?_ _)); refine blk_far ?_ NB343_353.out _; (with_reducible repeat (first | refine blk_drewN ?_ _ | refine blk_drew ?_ | refine blk_alloc ?_ _)); exact BK343.out) hb); have n2_ := Aside0.mk (blk_below (g := gb353) (o := .cells #[.int .i64 t350, .int .i64 t351] 46 (0, 0)) (by (with_reducible repeat (first | refine blk_drewN ?_ _ | refine blk_drew ?_ | refine blk_alloc ?_ _)); refine blk_put (cs := #[.int .i64 t350, .int .i64 0]) ?_ 1 _ rfl; (with_reducible repeat (first | refine blk_drewN ?_ _ | refine blk_drew ?_ | refine blk_alloc ?_ _)); refine blk_put (cs := #[.int .i64 0, .int .i64 0]) ?_ 0 _ rfl; (with_reducible repeat (first | refine blk_drewN ?_ _ | refine blk_drew ?_ | refine blk_alloc ?_ _)); exact BK353.out) hb); have n3_ := Aside0.mk (below_step (by repeat (first | (with_reducible first | exact HB.out | apply below_alloc | apply pw_below_drewN | apply below_drew1 | refine below_set ?_ GE333.out | refine below_set ?_ GE343.out | refine below_set ?_ GE353.out) | exact HB.out)) hb); clear BK333; clear BK343; clear BK353; clear HB; have BK333 := n0_; have BK343 := n1_; have BK353 := n2_; have HB := n3_; clear n0_ n1_ n2_ n3_; (try clear hb); (try clear hb2); (try clear hk); (try clear hi)))
                            go_ret
                            exact ⟨by first | rfl | (simp [errW_none, errW_some] <;> rfl) | (simp [*, errW_none, errW_some] <;> rfl), by repeat (first | (with_reducible first | exact HB.out | apply below_alloc | apply pw_below_drewN | apply below_drew1 | refine below_set ?_ GE333.out | refine below_set ?_ GE343.out | refine below_set ?_ GE353.out) | exact HB.out)⟩
                          · replace c62 := Bool.eq_false_iff.mpr c62
                            subst c62
                            have H1 : (some false) = some r := by rw [if_neg (show ¬ (false = true) by decide)] at H; exact H
                            clear H
                            have H := H1
                            clear H1
                            obtain rfl := Option.some.inj H
                            have hnb75 := NB333_343.out
                            have hnc75 := NB343_333.out
                            have hcz76_0 : wc.cell? ⟨gb333, 0, none⟩ = some (.int .i64 a0_0) := (blk_cell BK333.out 0).trans rfl
                            have hcz76_1 : wc.cell? ⟨gb333, 1, none⟩ = some (.int .i64 a0_1) := (blk_cell BK333.out 1).trans rfl
                            have hcz76_2 : wc.cell? ⟨gb333, 2, none⟩ = some (.int .i64 a0_2) := (blk_cell BK333.out 2).trans rfl
                            have hcz76_3 : wc.cell? ⟨gb333, 3, none⟩ = some (.int .i64 a0_3) := (blk_cell BK333.out 3).trans rfl
                            have hcz76_4 : wc.cell? ⟨gb333, 4, none⟩ = some (.int .i64 a0_4) := (blk_cell BK333.out 4).trans rfl
                            have hcz76_5 : wc.cell? ⟨gb333, 5, none⟩ = some (.int .i64 a0_5) := (blk_cell BK333.out 5).trans rfl
                            have hcz76_6 : wc.cell? ⟨gb333, 6, none⟩ = some (.int .i64 a0_6) := (blk_cell BK333.out 6).trans rfl
                            have hcz76_7 : wc.cell? ⟨gb333, 7, none⟩ = some (.int .i64 a0_7) := (blk_cell BK333.out 7).trans rfl
                            have hcz76_8 : wc.cell? ⟨gb333, 8, none⟩ = some (.int .i64 a0_8) := (blk_cell BK333.out 8).trans rfl
                            have hfz76_0 := blk_frozen BK333.out 0
                            have hfz76_1 := blk_frozen BK333.out 1
                            have hfz76_2 := blk_frozen BK333.out 2
                            have hfz76_3 := blk_frozen BK333.out 3
                            have hfz76_4 := blk_frozen BK333.out 4
                            have hfz76_5 := blk_frozen BK333.out 5
                            have hfz76_6 := blk_frozen BK333.out 6
                            have hfz76_7 := blk_frozen BK333.out 7
                            have hfz76_8 := blk_frozen BK333.out 8
                            go_wp2_with (first | ((with_reducible refine gate_callee (f := 19) rfl ?_); refine goesL_ (some 88) rfl rfl Try.func19 (by kernel_rfl) rfl #[.agg #[.int .i64 a0_0, .int .i64 a0_1, .int .i64 a0_2, .int .i64 a0_3, .int .i64 a0_4, .int .i64 a0_5, .int .i64 (wrap64 (t338 - 1)), .int .i64 a0_7, .int .i64 a0_8]] rfl (by (try simp only [List.map_toArray, List.map_cons, List.map_nil]); first | done | rfl | (simp only [List.length_drop, List.length_take]; rfl)) ?_; (with_reducible refine (diophant_Solve.calls kj30 a0_0 a0_1 a0_2 a0_3 a0_4 a0_5 (wrap64 (t338 - 1)) a0_7 a0_8 t347 t348 false _ A50.out).mono ?_); rintro e w77 ⟨rfl, hb⟩; refine ⟨_, rfl, ?_⟩; have n0_ := Aside0.mk (blk_below (g := gb333) (o := .cells #[.int .i64 a0_0, .int .i64 a0_1, .int .i64 a0_2, .int .i64 a0_3, .int .i64 a0_4, .int .i64 a0_5, .int .i64 (wrap64 (t338 - 1)), .int .i64 a0_7, .int .i64 a0_8] 31 (0, 0)) (by (with_reducible repeat (first | refine blk_drewN ?_ _ | refine blk_drew ?_ | refine blk_alloc ?_ _)); refine blk_put (cs := #[.int .i64 a0_0, .int .i64 a0_1, .int .i64 a0_2, .int .i64 a0_3, .int .i64 a0_4, .int .i64 a0_5, .int .i64 a0_6, .int .i64 a0_7, .int .i64 a0_8]) ?_ 6 _ rfl; (with_reducible repeat (first | refine blk_drewN ?_ _ | refine blk_drew ?_ | refine blk_alloc ?_ _)); exact BK333.out) hb); have n1_ := Aside0.mk (blk_below (g := gb343) (o := .cells #[.int .i64 t340, .int .i64 t341] 46 (0, 0)) (by (with_reducible repeat (first | refine blk_drewN ?_ _ | refine blk_drew ?_ | refine blk_alloc ?_ _)); refine blk_far ?_ NB343_333.out _; (with_reducible repeat (first | refine blk_drewN ?_ _ | refine blk_drew ?_ | refine blk_alloc ?_ _)); exact BK343.out) hb); have n2_ := Aside0.mk (below_step (by repeat (first | (with_reducible first | exact HB.out | apply below_alloc | apply pw_below_drewN | apply below_drew1 | refine below_set ?_ GE333.out | refine below_set ?_ GE343.out) | exact HB.out)) hb); clear BK333; clear BK343; clear HB; have BK333 := n0_; have BK343 := n1_; have HB := n2_; clear n0_ n1_ n2_; (try clear hb); (try clear hb2); (try clear hk); (try clear hi); obtain ⟨_, _, _, _, _, _, _, _, _⟩ := sq_cells9 BK333.out; obtain ⟨_, _, _, _, _, _, _, _, _⟩ := sq_free9 BK333.out) | ((with_reducible refine gate_callee (f := 25) rfl ?_); refine goesL_ (some 94) rfl rfl Try.func25 (by kernel_rfl) rfl #[.agg #[.int .i64 a0_0, .int .i64 a0_1, .int .i64 a0_2, .int .i64 a0_3, .int .i64 a0_4, .int .i64 a0_5, .int .i64 (wrap64 (t338 - 1)), .int .i64 a0_7, .int .i64 a0_8]] rfl (by (try simp only [List.map_toArray, List.map_cons, List.map_nil]); first | done | rfl | (simp only [List.length_drop, List.length_take]; rfl)) ?_; (with_reducible refine (diophant_Refuse.calls kj30 a0_0 a0_1 a0_2 a0_3 a0_4 a0_5 (wrap64 (t338 - 1)) a0_7 a0_8 t350 t351 false _ A51.out).mono ?_); rintro e w79 ⟨rfl, hb⟩; refine ⟨_, rfl, ?_⟩; have n0_ := Aside0.mk (blk_below (g := gb333) (by (with_reducible repeat (first | refine blk_drewN ?_ _ | refine blk_drew ?_ | refine blk_alloc ?_ _)); exact BK333.out) hb); have n1_ := Aside0.mk (blk_below (g := gb343) (by (with_reducible repeat (first | refine blk_drewN ?_ _ | refine blk_drew ?_ | refine blk_alloc ?_ _)); exact BK343.out) hb); have n2_ := Aside0.mk (below_step (by repeat (first | (with_reducible first | exact HB.out | apply below_alloc | apply pw_below_drewN | apply below_drew1 | refine below_set ?_ GE333.out | refine below_set ?_ GE343.out) | exact HB.out)) hb); clear BK333; clear BK343; clear HB; have BK333 := n0_; have BK343 := n1_; have HB := n2_; clear n0_ n1_ n2_; (try clear hb); (try clear hb2); (try clear hk); (try clear hi)) | ((with_reducible refine gate_dst (N := 11) rfl ?_); refine box_event ?hg (N := 11) ?hd (cs := #[.int .i64 0, .int .i64 0]) (t := 46) ?hr ?_; (case hd => rfl); (case hg => rfl); (case hr => first | (go_simp; done) | (go_simp; rfl)); intro gb353 hg w80 hbox hb; have n0_ := Aside0.mk (blk_below (g := gb333) (by (with_reducible repeat (first | refine blk_drewN ?_ _ | refine blk_drew ?_ | refine blk_alloc ?_ _)); exact BK333.out) hb); have n1_ := Aside0.mk (blk_below (g := gb343) (by (with_reducible repeat (first | refine blk_drewN ?_ _ | refine blk_drew ?_ | refine blk_alloc ?_ _)); exact BK343.out) hb); have n2_ := Aside0.mk (below_step (by repeat (first | (with_reducible first | exact HB.out | apply below_alloc | apply pw_below_drewN | apply below_drew1 | refine below_set ?_ GE333.out | refine below_set ?_ GE343.out) | exact HB.out)) hb); have n3_ := Aside0.mk (hbox); have n4_ := Aside0.mk ((by rw [hg]; exact (below_size (by repeat (first | (with_reducible first | exact HB.out | apply below_alloc | apply pw_below_drewN | apply below_drew1 | refine below_set ?_ GE333.out | refine below_set ?_ GE343.out) | exact HB.out))) : w.heap.size ≤ gb353)); have n5_ := Aside0.mk ((by rw [hg]; exact (below_size (by repeat (first | (with_reducible first | exact HB.out | apply below_alloc | apply pw_below_drewN | apply below_drew1 | refine below_set ?_ GE333.out | refine below_set ?_ GE343.out) | exact HB.out))) : w.heap.size ≤ gb353)); have n6_ := Aside0.mk ((by rw [hg]; exact Nat.ne_of_lt (blk_lt (g := gb333) (by (with_reducible repeat (first | refine blk_drewN ?_ _ | refine blk_drew ?_ | refine blk_alloc ?_ _)); exact BK333.out)) : gb333 ≠ gb353)); have n7_ := Aside0.mk ((by rw [hg]; exact Nat.ne_of_gt (blk_lt (g := gb333) (by (with_reducible repeat (first | refine blk_drewN ?_ _ | refine blk_drew ?_ | refine blk_alloc ?_ _)); exact BK333.out)) : gb353 ≠ gb333)); have n8_ := Aside0.mk ((by rw [hg]; exact Nat.ne_of_lt (blk_lt (g := gb343) (by (with_reducible repeat (first | refine blk_drewN ?_ _ | refine blk_drew ?_ | refine blk_alloc ?_ _)); exact BK343.out)) : gb343 ≠ gb353)); have n9_ := Aside0.mk ((by rw [hg]; exact Nat.ne_of_gt (blk_lt (g := gb343) (by (with_reducible repeat (first | refine blk_drewN ?_ _ | refine blk_drew ?_ | refine blk_alloc ?_ _)); exact BK343.out)) : gb353 ≠ gb343)); clear BK333; clear BK343; clear HB; have BK333 := n0_; have BK343 := n1_; have HB := n2_; have BK353 := n3_; have GW353 := n4_; have GE353 := n5_; have NB333_353 := n6_; have NB353_333 := n7_; have NB343_353 := n8_; have NB353_343 := n9_; clear n0_ n1_ n2_ n3_ n4_ n5_ n6_ n7_ n8_ n9_; clear hb hbox hg; have hnb81 := NB353_333.out; have hnc81 := NB333_353.out; have hnb82 := NB353_343.out; have hnc82 := NB343_353.out; obtain ⟨_, _⟩ := sq_cells2 BK353.out; obtain ⟨_, _⟩ := sq_free2 BK353.out))
                            go_ret
                            exact ⟨by first | rfl | (simp [errW_none, errW_some] <;> rfl) | (simp [*, errW_none, errW_some] <;> rfl), by repeat (first | (with_reducible first | exact HB.out | apply below_alloc | apply pw_below_drewN | apply below_drew1 | refine below_set ?_ GE333.out | refine below_set ?_ GE343.out | refine below_set ?_ GE353.out) | exact HB.out)⟩
              · replace c30 := Bool.eq_false_iff.mpr c30
                subst c30
                have H1 : ((diophant_Check.f kj15 a0_0 a0_1 a0_2 a0_3 a0_4 a0_5 a0_6 a0_7 a0_8 t340 t341).bind fun t345 => (some t345)) = some r := by rw [if_neg (show ¬ (false = true) by decide)] at H; exact H
                clear H
                have H := H1
                clear H1
                replace H := Option.bind_eq_some_iff.mp H
                obtain ⟨t345, A840, H⟩ := H
                replace H : (some t345) = some r := H
                have A84 := Aside0.mk A840
                clear A840
                obtain rfl := Option.some.inj H
                have hnb85 := NB333_343.out
                have hnc85 := NB343_333.out
                have hcz86_0 : wc.cell? ⟨gb333, 0, none⟩ = some (.int .i64 a0_0) := (blk_cell BK333.out 0).trans rfl
                have hcz86_1 : wc.cell? ⟨gb333, 1, none⟩ = some (.int .i64 a0_1) := (blk_cell BK333.out 1).trans rfl
                have hcz86_2 : wc.cell? ⟨gb333, 2, none⟩ = some (.int .i64 a0_2) := (blk_cell BK333.out 2).trans rfl
                have hcz86_3 : wc.cell? ⟨gb333, 3, none⟩ = some (.int .i64 a0_3) := (blk_cell BK333.out 3).trans rfl
                have hcz86_4 : wc.cell? ⟨gb333, 4, none⟩ = some (.int .i64 a0_4) := (blk_cell BK333.out 4).trans rfl
                have hcz86_5 : wc.cell? ⟨gb333, 5, none⟩ = some (.int .i64 a0_5) := (blk_cell BK333.out 5).trans rfl
                have hcz86_6 : wc.cell? ⟨gb333, 6, none⟩ = some (.int .i64 a0_6) := (blk_cell BK333.out 6).trans rfl
                have hcz86_7 : wc.cell? ⟨gb333, 7, none⟩ = some (.int .i64 a0_7) := (blk_cell BK333.out 7).trans rfl
                have hcz86_8 : wc.cell? ⟨gb333, 8, none⟩ = some (.int .i64 a0_8) := (blk_cell BK333.out 8).trans rfl
                have hfz86_0 := blk_frozen BK333.out 0
                have hfz86_1 := blk_frozen BK333.out 1
                have hfz86_2 := blk_frozen BK333.out 2
                have hfz86_3 := blk_frozen BK333.out 3
                have hfz86_4 := blk_frozen BK333.out 4
                have hfz86_5 := blk_frozen BK333.out 5
                have hfz86_6 := blk_frozen BK333.out 6
                have hfz86_7 := blk_frozen BK333.out 7
                have hfz86_8 := blk_frozen BK333.out 8
                have hcz87_0 : wc.cell? ⟨gb343, 0, none⟩ = some (.int .i64 t340) := (blk_cell BK343.out 0).trans rfl
                have hcz87_1 : wc.cell? ⟨gb343, 1, none⟩ = some (.int .i64 t341) := (blk_cell BK343.out 1).trans rfl
                have hfz87_0 := blk_frozen BK343.out 0
                have hfz87_1 := blk_frozen BK343.out 1
                go_wp2_with (first | ((with_reducible refine gate_callee (f := 22) rfl ?_); refine goesL_ (some 46) rfl rfl Try.func22 (by kernel_rfl) rfl #[.agg #[.int .i64 a0_0, .int .i64 a0_1, .int .i64 a0_2, .int .i64 a0_3, .int .i64 a0_4, .int .i64 a0_5, .int .i64 a0_6, .int .i64 a0_7, .int .i64 a0_8], .agg #[.int .i64 t340, .int .i64 t341]] rfl (by (try simp only [List.map_toArray, List.map_cons, List.map_nil]); first | done | rfl | (simp only [List.length_drop, List.length_take]; rfl)) ?_; (with_reducible refine (diophant_Check.calls kj15 a0_0 a0_1 a0_2 a0_3 a0_4 a0_5 a0_6 a0_7 a0_8 t340 t341 t345 _ A84.out).mono ?_); rintro e w88 ⟨rfl, hb⟩; refine ⟨_, rfl, ?_⟩; have n0_ := Aside0.mk (blk_below (g := gb333) (by (with_reducible repeat (first | refine blk_drewN ?_ _ | refine blk_drew ?_ | refine blk_alloc ?_ _)); exact BK333.out) hb); have n1_ := Aside0.mk (blk_below (g := gb343) (by (with_reducible repeat (first | refine blk_drewN ?_ _ | refine blk_drew ?_ | refine blk_alloc ?_ _)); exact BK343.out) hb); have n2_ := Aside0.mk (below_step (by repeat (first | (with_reducible first | exact HB.out | apply below_alloc | apply pw_below_drewN | apply below_drew1 | refine below_set ?_ GE333.out | refine below_set ?_ GE343.out) | exact HB.out)) hb); clear BK333; clear BK343; clear HB; have BK333 := n0_; have BK343 := n1_; have HB := n2_; clear n0_ n1_ n2_; (try clear hb); (try clear hb2); (try clear hk); (try clear hi)))
                go_ret
                exact ⟨by first | rfl | (simp [errW_none, errW_some] <;> rfl) | (simp [*, errW_none, errW_some] <;> rfl), by repeat (first | (with_reducible first | exact HB.out | apply below_alloc | apply pw_below_drewN | apply below_drew1 | refine below_set ?_ GE333.out | refine below_set ?_ GE343.out) | exact HB.out)⟩

end Go.Proofs.Ytpfkhinbehegbaa.X
