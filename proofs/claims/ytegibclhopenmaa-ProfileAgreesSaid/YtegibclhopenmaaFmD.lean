/- cycles.Split. -/
import Derived.Test.YtegibclhopenmaaFmA
set_option linter.unusedVariables false
set_option linter.unusedSimpArgs false
namespace Go.AM.Ytegibclhopenmaa
open Go Go.AM
set_option maxRecDepth 100000
set_option maxHeartbeats 0
attribute [local congr] kif_congr
/-- the stretches before the last one, and the visits of the last one, after j + 1 visits -/
def ct (bl sc pa : V) : Nat → List (Int × Nat) × Nat
  | 0 => ([], 1)
  | j + 1 => if ic pa j 0 = ic pa (j + 1) 0 ∧ SPp bl sc (ic pa (j + 1) 0) then ((ct bl sc pa j).1, (ct bl sc pa j).2 + 1) else ((ct bl sc pa j).1 ++ [(ic pa j 0, (ct bl sc pa j).2)], 1)
def stA (bl sc pa : V) (j : Nat) : List (Int × Nat) := (ct bl sc pa j).1 ++ [(ic pa j 0, (ct bl sc pa j).2)]
def rwS (s : Int × Nat) : List V := [.int .i64 s.1, .int .i64 s.2]
theorem ct_le (bl sc pa : V) (j : Nat) : (ct bl sc pa j).1.length ≤ j ∧ 1 ≤ (ct bl sc pa j).2 ∧ (ct bl sc pa j).2 ≤ j + 1 := by
  induction j with
  | zero => simp [ct]
  | succ j ih =>
    simp only [ct]
    split
    · simp only; omega
    · simp only [List.length_append, List.length_cons, List.length_nil]; omega
def ldsP (bl : V) (a b : Int) : Prop := 0 < cnt (cel bl a.toNat 4) b (lenV (cel bl a.toNat 4))
/-- a visit is possible -/
def okP (bl pa : V) (j : Nat) : Prop := 0 ≤ ic pa j 0 ∧ ic pa j 0 < lenV bl ∧ (0 < j → ldsP bl (ic pa (j - 1) 0) (ic pa j 0))
/-- the slice of stretches after j visits, in the heap behind B -/
def SB (B : Blk) (bl sc pa : V) (j : Nat) (v : V) (H : Heap) : Prop := (j = 0 ∧ v = .nils ∧ H = [B]) ∨ (0 < j ∧ v = .sl 2 1 ((ct bl sc pa (j - 1)).1.length + 1) 0 ((ct bl sc pa (j - 1)).1.length + 1) ∧ H = [B, ⟨2, (stA bl sc pa (j - 1)).map rwS, 0, false, true⟩])
def T12 (sc pa v : V) (H : Heap) (j : Nat) (d : Bool) : St := ⟨[.undef, sc, pa, .ptr 0 1 0 0, .undef, .undef, .undef, .undef, v, .undef, .undef, .undef, .undef, .undef, .undef, .undef, .undef, .undef, .undef, .undef, .undef, .undef, .undef, .undef, .undef, .undef, .undef, .undef, .undef, .undef, .undef, .undef, .undef, .undef, pa, .int .i64 (lenV pa), .int .i64 j, .undef, .undef, .undef, .undef, .undef, .undef, .undef, .undef, .undef, .undef, .undef, .undef, .undef, .undef, .undef, .undef, .undef, .undef, .undef, .undef, .undef, .undef, .undef, .undef, .undef, .undef, .undef, .undef, .undef, .undef, .undef, .undef, .undef, .undef, .undef, .undef, .undef, .undef, .undef, .undef, .undef, .undef, .undef, .undef, .undef, .undef, .undef, .undef, .undef, .undef, .undef, .undef, .undef, .undef, .undef, .undef, .undef, .undef, .undef, .undef, .undef, .undef, .undef], H, d⟩
def I12 (B : Blk) (bl sc pa : V) (j : Nat) (t : St) : Prop := ∃ v H d, SB B bl sc pa j v H ∧ (∀ i, i < j → okP bl pa i) ∧ t = T12 sc pa v H j d
def R12 (bl pa : V) (r : Ex × St) : Prop := (¬ ∀ j, j < lenV pa → okP bl pa j) ∧ r.1 = .ret ∧ r.2.fr.getD 6 .undef = .nils ∧ r.2.fr.getD 7 .undef = .int .i64 3
theorem R12_ret {bl pa : V} {s : St} : R12 bl pa (.ret, s) = ((¬ ∀ j, j < lenV pa → okP bl pa j) ∧ s.fr.getD 6 .undef = .nils ∧ s.fr.getD 7 .undef = .int .i64 3) := by simp [R12]
theorem map_set {es : List (Int × Nat)} {x y : Int × Nat} : ((es ++ [x]).map rwS).set es.length (rwS y) = (es ++ [y]).map rwS := by
  simp [List.set_append]
theorem map_get {es : List (Int × Nat)} {x : Int × Nat} : ((es ++ [x]).map rwS)[es.length]? = some (rwS x) := by
  simp
theorem g12 (K : Nat) (hK : BIG ≤ K) (nm : ByteArray) (w ar st rt bl : V) (h : OkF nm w ar st rt bl) (sc pa : V) (hs : S28 [sc]) (hp : S22 [pa]) (hn : lenV pa ≤ 60) (hp0 : ic pa 0 0 = 0) (hbl : 0 < lenV bl) (j : Nat) (hj : j < lenV pa) (t : St) (ht : I12 (bxF nm w ar st rt bl) bl sc pa j t) :
    Go1 (tidy [1, 2, 3, 8, 34, 35, 36] 0) (I12 (bxF nm w ar st rt bl) bl sc pa (j + 1)) (R12 bl pa) (execC (callF tbl pu (K + 1)) pu 0 (K + 1) c12_b0 t) := by
  obtain ⟨v, H, d, hb, hok, rfl⟩ := ht
  have gw := LS22 h.w
  have ga := LS23 h.ar
  have gs := LS24 h.st
  have gr := LS22 h.rt
  have gb := LS25 h.bl
  have gc := LS28 hs
  have gp := LS22 hp
  have h1 : IntKind.i64.wrap ((j : Int) + 1) = (j : Int) + 1 := wrap64 (by omega) (by omega)
  have h3 : decide (lenV pa ≤ j) = false := by simp; omega
  have h4 : decide (j < lenV pa) = true := by simp; omega
  have hrow := (e22 hp hj).1
  have bad : ¬ okP bl pa j → ¬ ∀ j, j < lenV pa → okP bl pa j := fun hh hall => hh (hall j hj)
  have hok' : okP bl pa j → ∀ i, i < j + 1 → okP bl pa i := fun hh i hi => by
    rcases Nat.lt_or_eq_of_le (Nat.le_of_lt_succ hi) with h4 | rfl
    · exact hok i h4
    · exact hh
  by_cases c1 : ic pa j 0 < 0
  · have d1 : decide (ic pa j 0 < 0) = true := by simp; omega
    have hbad := bad (fun hh => by have := hh.1; omega)
    rcases hb with ⟨hj0, rfl, rfl⟩ | ⟨hj0, rfl, rfl⟩
    · unfold c12_b0 c12_r0 c12_a0 T12 bxF
      simp (contextual := true) (maxSteps := 10000000) (implicitDefEqProofs := false) [h1, h3, h4, d1, hrow, gw.all, ga.all, gs.all, gr.all, gb.all, gc.all, gp.all, kIadr_LS gp, Go1_kif, Go1_ret, Go1_normal, Go1_exit, RtF_ret, ex_eq, ex_eq2, tidy, R12_ret, hbad, kCond_kc, kc_kif, ↓kif_tr, ↓kif_fl, kif_tr, kif_fl, kif_same, ↓kif_not, ↓kif_or, ↓kifg_tr, ↓kifg_fl, ↓kifg_not, ↓kifg_or, ↓kifg_and, kifg_kif, kifB_t, kifB_f, kifB_ft, kifB_tt, kif_bool, kif_int, mergeL, mergeV, mergeS, mergeRs, kSeq_kif, kBlk_kif, kPost_kif, kNext_kif, kFin_kif, kReg_kif, kOps_kif, kO_kif, kG_kif, kDrw_kif, kW_kif, kOpsW_kif, kRet_kif, map_kif, bind_kif, kWant_t, kWant_f, kWant_kif, ↓execI_pick, kPick_bool, kPick_kif, ↓execI_iadr, kIadr_sl, ↓execI_idxs, kIdxs_str, ↓execI_len, ↓rdB_ld, kRd_ptr, kRd_tptr, kRd_tup, kRd_kif, kOpsW_bs, gt0, st0, gt1, st1, gt2, st2, gt3, st3, gt4, st4, gt5, st5, gt6, st6, gt7, st7, gt8, st8, -kWant_bool, -Int.not_le, -Int.not_lt, -decide_eq_true_eq, -decide_eq_false_iff_not, -List.getD_eq_getElem?_getD, -List.set_cons_succ, -List.set_cons_zero, -Bool.and_eq_true, -Bool.or_eq_true, -Bool.not_eq_eq_eq_not, -Bool.or_eq_false_iff, -Bool.and_eq_false_imp, -Bool.not_eq_true, -Bool.not_eq_false]
    · unfold c12_b0 c12_r0 c12_a0 T12 bxF
      simp (contextual := true) (maxSteps := 10000000) (implicitDefEqProofs := false) [h1, h3, h4, d1, hrow, gw.all, ga.all, gs.all, gr.all, gb.all, gc.all, gp.all, kIadr_LS gp, Go1_kif, Go1_ret, Go1_normal, Go1_exit, RtF_ret, ex_eq, ex_eq2, tidy, R12_ret, hbad, kCond_kc, kc_kif, ↓kif_tr, ↓kif_fl, kif_tr, kif_fl, kif_same, ↓kif_not, ↓kif_or, ↓kifg_tr, ↓kifg_fl, ↓kifg_not, ↓kifg_or, ↓kifg_and, kifg_kif, kifB_t, kifB_f, kifB_ft, kifB_tt, kif_bool, kif_int, mergeL, mergeV, mergeS, mergeRs, kSeq_kif, kBlk_kif, kPost_kif, kNext_kif, kFin_kif, kReg_kif, kOps_kif, kO_kif, kG_kif, kDrw_kif, kW_kif, kOpsW_kif, kRet_kif, map_kif, bind_kif, kWant_t, kWant_f, kWant_kif, ↓execI_pick, kPick_bool, kPick_kif, ↓execI_iadr, kIadr_sl, ↓execI_idxs, kIdxs_str, ↓execI_len, ↓rdB_ld, kRd_ptr, kRd_tptr, kRd_tup, kRd_kif, kOpsW_bs, gt0, st0, gt1, st1, gt2, st2, gt3, st3, gt4, st4, gt5, st5, gt6, st6, gt7, st7, gt8, st8, -kWant_bool, -Int.not_le, -Int.not_lt, -decide_eq_true_eq, -decide_eq_false_iff_not, -List.getD_eq_getElem?_getD, -List.set_cons_succ, -List.set_cons_zero, -Bool.and_eq_true, -Bool.or_eq_true, -Bool.not_eq_eq_eq_not, -Bool.or_eq_false_iff, -Bool.and_eq_false_imp, -Bool.not_eq_true, -Bool.not_eq_false]
  have d1 : decide (ic pa j 0 < 0) = false := by simp; omega
  by_cases c2 : (lenV bl : Int) ≤ ic pa j 0
  · have d2 : decide ((lenV bl : Int) ≤ ic pa j 0) = true := by simp; omega
    have hbad := bad (fun hh => by have := hh.2.1; omega)
    rcases hb with ⟨hj0, rfl, rfl⟩ | ⟨hj0, rfl, rfl⟩
    · unfold c12_b0 c12_r0 c12_a0 T12 bxF
      simp (contextual := true) (maxSteps := 10000000) (implicitDefEqProofs := false) [h1, h3, h4, d1, d2, hrow, gw.all, ga.all, gs.all, gr.all, gb.all, gc.all, gp.all, kIadr_LS gp, Go1_kif, Go1_ret, Go1_normal, Go1_exit, RtF_ret, ex_eq, ex_eq2, tidy, R12_ret, hbad, kCond_kc, kc_kif, ↓kif_tr, ↓kif_fl, kif_tr, kif_fl, kif_same, ↓kif_not, ↓kif_or, ↓kifg_tr, ↓kifg_fl, ↓kifg_not, ↓kifg_or, ↓kifg_and, kifg_kif, kifB_t, kifB_f, kifB_ft, kifB_tt, kif_bool, kif_int, mergeL, mergeV, mergeS, mergeRs, kSeq_kif, kBlk_kif, kPost_kif, kNext_kif, kFin_kif, kReg_kif, kOps_kif, kO_kif, kG_kif, kDrw_kif, kW_kif, kOpsW_kif, kRet_kif, map_kif, bind_kif, kWant_t, kWant_f, kWant_kif, ↓execI_pick, kPick_bool, kPick_kif, ↓execI_iadr, kIadr_sl, ↓execI_idxs, kIdxs_str, ↓execI_len, ↓rdB_ld, kRd_ptr, kRd_tptr, kRd_tup, kRd_kif, kOpsW_bs, gt0, st0, gt1, st1, gt2, st2, gt3, st3, gt4, st4, gt5, st5, gt6, st6, gt7, st7, gt8, st8, -kWant_bool, -Int.not_le, -Int.not_lt, -decide_eq_true_eq, -decide_eq_false_iff_not, -List.getD_eq_getElem?_getD, -List.set_cons_succ, -List.set_cons_zero, -Bool.and_eq_true, -Bool.or_eq_true, -Bool.not_eq_eq_eq_not, -Bool.or_eq_false_iff, -Bool.and_eq_false_imp, -Bool.not_eq_true, -Bool.not_eq_false]
    · unfold c12_b0 c12_r0 c12_a0 T12 bxF
      simp (contextual := true) (maxSteps := 10000000) (implicitDefEqProofs := false) [h1, h3, h4, d1, d2, hrow, gw.all, ga.all, gs.all, gr.all, gb.all, gc.all, gp.all, kIadr_LS gp, Go1_kif, Go1_ret, Go1_normal, Go1_exit, RtF_ret, ex_eq, ex_eq2, tidy, R12_ret, hbad, kCond_kc, kc_kif, ↓kif_tr, ↓kif_fl, kif_tr, kif_fl, kif_same, ↓kif_not, ↓kif_or, ↓kifg_tr, ↓kifg_fl, ↓kifg_not, ↓kifg_or, ↓kifg_and, kifg_kif, kifB_t, kifB_f, kifB_ft, kifB_tt, kif_bool, kif_int, mergeL, mergeV, mergeS, mergeRs, kSeq_kif, kBlk_kif, kPost_kif, kNext_kif, kFin_kif, kReg_kif, kOps_kif, kO_kif, kG_kif, kDrw_kif, kW_kif, kOpsW_kif, kRet_kif, map_kif, bind_kif, kWant_t, kWant_f, kWant_kif, ↓execI_pick, kPick_bool, kPick_kif, ↓execI_iadr, kIadr_sl, ↓execI_idxs, kIdxs_str, ↓execI_len, ↓rdB_ld, kRd_ptr, kRd_tptr, kRd_tup, kRd_kif, kOpsW_bs, gt0, st0, gt1, st1, gt2, st2, gt3, st3, gt4, st4, gt5, st5, gt6, st6, gt7, st7, gt8, st8, -kWant_bool, -Int.not_le, -Int.not_lt, -decide_eq_true_eq, -decide_eq_false_iff_not, -List.getD_eq_getElem?_getD, -List.set_cons_succ, -List.set_cons_zero, -Bool.and_eq_true, -Bool.or_eq_true, -Bool.not_eq_eq_eq_not, -Bool.or_eq_false_iff, -Bool.and_eq_false_imp, -Bool.not_eq_true, -Bool.not_eq_false]
  have d2 : decide ((lenV bl : Int) ≤ ic pa j 0) = false := by simp; omega
  rcases hb with ⟨hj0, rfl, rfl⟩ | ⟨hj0, rfl, rfl⟩
  · have d0 : decide (0 < j) = false := by simp; omega
    have fin : ∀ d, I12 (bxF nm w ar st rt bl) bl sc pa (j + 1) (T12 sc pa (.sl 2 1 1 0 1) [bxF nm w ar st rt bl, ⟨2, [[.int .i64 (ic pa j 0), .int .i64 1]], 0, false, true⟩] (j + 1) d) := fun d => ⟨_, _, d, .inr ⟨by omega, by rw [show j + 1 - 1 = j by omega, hj0]; rfl, by rw [show j + 1 - 1 = j by omega, hj0]; rfl⟩, hok' ⟨by omega, by omega, fun hh => by omega⟩, rfl⟩
    generalize I12 (bxF nm w ar st rt bl) bl sc pa (j + 1) = II at fin ⊢
    simp only [T12, bxF, Int.natCast_add, Int.natCast_one] at fin
    unfold c12_b0 c12_r0 c12_a0 T12 bxF
    simp (contextual := true) (maxSteps := 10000000) (implicitDefEqProofs := false) [h1, h3, h4, d0, d1, d2, hrow, gw.all, ga.all, gs.all, gr.all, gb.all, gc.all, gp.all, kIadr_LS gp, appV, elemsOf, roomB, freezeH, fin, Go1_kif, Go1_ret, Go1_normal, Go1_exit, RtF_ret, ex_eq, ex_eq2, tidy, kCond_kc, kc_kif, ↓kif_tr, ↓kif_fl, kif_tr, kif_fl, kif_same, ↓kif_not, ↓kif_or, ↓kifg_tr, ↓kifg_fl, ↓kifg_not, ↓kifg_or, ↓kifg_and, kifg_kif, kifB_t, kifB_f, kifB_ft, kifB_tt, kif_bool, kif_int, mergeL, mergeV, mergeS, mergeRs, kSeq_kif, kBlk_kif, kPost_kif, kNext_kif, kFin_kif, kReg_kif, kOps_kif, kO_kif, kG_kif, kDrw_kif, kW_kif, kOpsW_kif, kRet_kif, map_kif, bind_kif, kWant_t, kWant_f, kWant_kif, ↓execI_pick, kPick_bool, kPick_kif, ↓execI_iadr, kIadr_sl, ↓execI_idxs, kIdxs_str, ↓execI_len, ↓rdB_ld, kRd_ptr, kRd_tptr, kRd_tup, kRd_kif, kOpsW_bs, gt0, st0, gt1, st1, gt2, st2, gt3, st3, gt4, st4, gt5, st5, gt6, st6, gt7, st7, gt8, st8, -kWant_bool, -Int.not_le, -Int.not_lt, -decide_eq_true_eq, -decide_eq_false_iff_not, -List.getD_eq_getElem?_getD, -List.set_cons_succ, -List.set_cons_zero, -Bool.and_eq_true, -Bool.or_eq_true, -Bool.not_eq_eq_eq_not, -Bool.or_eq_false_iff, -Bool.and_eq_false_imp, -Bool.not_eq_true, -Bool.not_eq_false]
  · obtain ⟨i, hji⟩ : ∃ i, j = i + 1 := ⟨j - 1, by omega⟩
    have hjm : j - 1 = i := by omega
    rw [hjm]
    have d0 : decide (0 < j) = true := by simp; omega
    have hrow2 := (e22 hp (i := i) (by omega)).1
    have hoki := hok i (by omega)
    have w1 : IntKind.i64.wrap ((j : Int) - 1) = i := by rw [wrap64 (by omega) (by omega)]; omega
    have d3 : decide ((lenV pa : Int) ≤ i) = false := by simp; omega
    have d3' : decide (lenV pa ≤ i) = false := by simp; omega
    obtain ⟨b22, e22', q22, hq22⟩ := tot22 K hK nm w ar st rt bl h (ic pa i 0) (ic pa j 0) ⟨hoki.1, hoki.2.1⟩
    obtain ⟨n, d', q23, hq23⟩ := tot23 K hK nm w ar st rt bl h sc hs (ic pa j 0)
    cases b22 with
    | false =>
      have hbad := bad (fun hh => by
        have := hh.2.2 (by omega)
        rw [hjm] at this
        unfold ldsP at this
        simp at hq22
        omega)
      unfold c12_b0 c12_r0 c12_a0 T12 bxF
      simp (contextual := true) (maxSteps := 10000000) (implicitDefEqProofs := false) [h1, h3, h4, d0, d1, d2, d3, d3', w1, hrow, hrow2, gw.all, ga.all, gs.all, gr.all, gb.all, gc.all, gp.all, kIadr_LS gp, callV_pu, q22, Go1_kif, Go1_ret, Go1_normal, Go1_exit, RtF_ret, ex_eq, ex_eq2, tidy, R12_ret, hbad, kCond_kc, kc_kif, ↓kif_tr, ↓kif_fl, kif_tr, kif_fl, kif_same, ↓kif_not, ↓kif_or, ↓kifg_tr, ↓kifg_fl, ↓kifg_not, ↓kifg_or, ↓kifg_and, kifg_kif, kifB_t, kifB_f, kifB_ft, kifB_tt, kif_bool, kif_int, mergeL, mergeV, mergeS, mergeRs, kSeq_kif, kBlk_kif, kPost_kif, kNext_kif, kFin_kif, kReg_kif, kOps_kif, kO_kif, kG_kif, kDrw_kif, kW_kif, kOpsW_kif, kRet_kif, map_kif, bind_kif, kWant_t, kWant_f, kWant_kif, ↓execI_pick, kPick_bool, kPick_kif, ↓execI_iadr, kIadr_sl, ↓execI_idxs, kIdxs_str, ↓execI_len, ↓rdB_ld, kRd_ptr, kRd_tptr, kRd_tup, kRd_kif, kOpsW_bs, gt0, st0, gt1, st1, gt2, st2, gt3, st3, gt4, st4, gt5, st5, gt6, st6, gt7, st7, gt8, st8, -kWant_bool, -Int.not_le, -Int.not_lt, -decide_eq_true_eq, -decide_eq_false_iff_not, -List.getD_eq_getElem?_getD, -List.set_cons_succ, -List.set_cons_zero, -Bool.and_eq_true, -Bool.or_eq_true, -Bool.not_eq_eq_eq_not, -Bool.or_eq_false_iff, -Bool.and_eq_false_imp, -Bool.not_eq_true, -Bool.not_eq_false]
    | true =>
      have hokj : okP bl pa j := ⟨by omega, by omega, fun _ => by
        rw [hjm]
        unfold ldsP
        exact hq22.1 rfl⟩
      have hall := hok' hokj
      obtain ⟨b1, b2, b3⟩ := ct_le bl sc pa i
      have hct : ct bl sc pa j = if ic pa i 0 = ic pa j 0 ∧ SPp bl sc (ic pa j 0) then ((ct bl sc pa i).1, (ct bl sc pa i).2 + 1) else ((ct bl sc pa i).1 ++ [(ic pa i 0, (ct bl sc pa i).2)], 1) := by rw [hji]; rfl
      have hstA : stA bl sc pa i = (ct bl sc pa i).1 ++ [(ic pa i 0, (ct bl sc pa i).2)] := rfl
      have hst1 : stA bl sc pa j = (ct bl sc pa j).1 ++ [(ic pa j 0, (ct bl sc pa j).2)] := rfl
      generalize ct bl sc pa i = C at *
      obtain ⟨L, vv⟩ := C
      simp only at *
      by_cases cs : ic pa i 0 = ic pa j 0 ∧ SPp bl sc (ic pa j 0)
      · rw [if_pos cs] at hct
        rw [hct] at hst1
        have d4 : decide (ic pa i 0 = ic pa j 0) = true := by simp [cs.1]
        have d5 : decide (0 ≤ n) = true := by have := hq23.2 cs.2; simp; omega
        have hget : ((stA bl sc pa i).map rwS)[L.length]? = some [.int .i64 (ic pa i 0), .int .i64 vv] := by rw [hstA]; exact map_get
        have hlen : ((stA bl sc pa i).map rwS).length = L.length + 1 := by rw [hstA]; simp
        have hset : ((stA bl sc pa i).map rwS).set L.length [.int .i64 (ic pa i 0), .int .i64 ((vv : Int) + 1)] = (stA bl sc pa j).map rwS := by
          rw [hstA, hst1, ← cs.1]
          exact map_set (y := (ic pa i 0, vv + 1))
        generalize (stA bl sc pa i).map rwS = es at *
        have w2 : IntKind.i64.wrap (L.length : Int) = L.length := wrap64 (by omega) (by omega)
        have w3 : IntKind.i64.wrap ((vv : Int) + 1) = (vv : Int) + 1 := wrap64 (by omega) (by omega)
        have d6 : decide ((L.length : Int) + 1 ≤ L.length) = false := by simp; omega
        have fin : ∀ d, I12 (bxF nm w ar st rt bl) bl sc pa (j + 1) (T12 sc pa (.sl 2 1 (L.length + 1) 0 (L.length + 1)) [bxF nm w ar st rt bl, ⟨2, (stA bl sc pa j).map rwS, 0, false, true⟩] (j + 1) d) := fun d => ⟨_, _, d, .inr ⟨by omega, by rw [show j + 1 - 1 = j by omega, hct], by rw [show j + 1 - 1 = j by omega]⟩, hall, rfl⟩
        generalize I12 (bxF nm w ar st rt bl) bl sc pa (j + 1) = II at fin ⊢
        simp only [T12, bxF, Int.natCast_add, Int.natCast_one] at fin
        unfold c12_b0 c12_r0 c12_a0 T12 bxF
        simp (contextual := true) (maxSteps := 10000000) (implicitDefEqProofs := false) [h1, h3, h4, d0, d1, d2, d3, d3', d4, d5, d6, w1, w2, w3, hrow, hrow2, hlen, hget, hset, -getElem?_pos, List.getElem?_cons_zero, List.getElem?_cons_succ, gw.all, ga.all, gs.all, gr.all, gb.all, gc.all, gp.all, kIadr_LS gp, callV_pu, q22, q23, freezeH, fin, Go1_kif, Go1_ret, Go1_normal, Go1_exit, RtF_ret, ex_eq, ex_eq2, tidy, kCond_kc, kc_kif, ↓kif_tr, ↓kif_fl, kif_tr, kif_fl, kif_same, ↓kif_not, ↓kif_or, ↓kifg_tr, ↓kifg_fl, ↓kifg_not, ↓kifg_or, ↓kifg_and, kifg_kif, kifB_t, kifB_f, kifB_ft, kifB_tt, kif_bool, kif_int, mergeL, mergeV, mergeS, mergeRs, kSeq_kif, kBlk_kif, kPost_kif, kNext_kif, kFin_kif, kReg_kif, kOps_kif, kO_kif, kG_kif, kDrw_kif, kW_kif, kOpsW_kif, kRet_kif, map_kif, bind_kif, kWant_t, kWant_f, kWant_kif, ↓execI_pick, kPick_bool, kPick_kif, ↓execI_iadr, kIadr_sl, ↓execI_idxs, kIdxs_str, ↓execI_len, ↓rdB_ld, kRd_ptr, kRd_tptr, kRd_tup, kRd_kif, kOpsW_bs, gt0, st0, gt1, st1, gt2, st2, gt3, st3, gt4, st4, gt5, st5, gt6, st6, gt7, st7, gt8, st8, -kWant_bool, -Int.not_le, -Int.not_lt, -decide_eq_true_eq, -decide_eq_false_iff_not, -List.getD_eq_getElem?_getD, -List.set_cons_succ, -List.set_cons_zero, -Bool.and_eq_true, -Bool.or_eq_true, -Bool.not_eq_eq_eq_not, -Bool.or_eq_false_iff, -Bool.and_eq_false_imp, -Bool.not_eq_true, -Bool.not_eq_false]
      · rw [if_neg cs] at hct
        rw [hct] at hst1
        have hlen : ((stA bl sc pa i).map rwS).length = L.length + 1 := by rw [hstA]; simp
        have happ : ((stA bl sc pa i).map rwS) ++ [[.int .i64 (ic pa j 0), .int .i64 1]] = (stA bl sc pa j).map rwS := by
          rw [hstA, hst1, List.map_append (l₁ := _ ++ _)]; rfl
        generalize (stA bl sc pa i).map rwS = es at *
        have r1 : (L.length + 1 + 1) * 16 ≤ 140737488351232 := by omega
        have r2 : L.length + 1 + 1 ≤ 140737488351232 := by omega
        have lg : ¬ L.length + 1 + 1 ≤ L.length + 1 := by omega
        have tak : es.take (L.length + 1) = es := List.take_of_length_le (by omega)
        have dr : es.drop (L.length + 1 + 1) = [] := List.drop_eq_nil_of_le (by omega)
        have fin : ∀ d, I12 (bxF nm w ar st rt bl) bl sc pa (j + 1) (T12 sc pa (.sl 2 1 (L.length + 1 + 1) 0 (L.length + 1 + 1)) [bxF nm w ar st rt bl, ⟨2, es ++ [[.int .i64 (ic pa j 0), .int .i64 1]], 0, false, true⟩] (j + 1) d) := fun d => ⟨_, _, d, .inr ⟨by omega, by rw [show j + 1 - 1 = j by omega, hct]; simp, by rw [show j + 1 - 1 = j by omega, happ]⟩, hall, rfl⟩
        generalize I12 (bxF nm w ar st rt bl) bl sc pa (j + 1) = II at fin ⊢
        simp only [T12, bxF, Int.natCast_add, Int.natCast_one] at fin
        by_cases c4 : ic pa i 0 = ic pa j 0
        · have d4 : decide (ic pa i 0 = ic pa j 0) = true := by simp [c4]
          have d5 : decide (0 ≤ n) = false := by
            have : ¬ 0 ≤ n := fun hh => cs ⟨c4, hq23.1 hh⟩
            simp; omega
          unfold c12_b0 c12_r0 c12_a0 T12 bxF
          simp (contextual := true) (maxSteps := 10000000) (implicitDefEqProofs := false) [h1, h3, h4, d0, d1, d2, d3, d3', d4, d5, w1, hrow, hrow2, hlen, r1, r2, lg, tak, dr, gw.all, ga.all, gs.all, gr.all, gb.all, gc.all, gp.all, kIadr_LS gp, callV_pu, q22, q23, appV, elemsOf, roomB, freezeH, fin, Go1_kif, Go1_ret, Go1_normal, Go1_exit, RtF_ret, ex_eq, ex_eq2, tidy, kCond_kc, kc_kif, ↓kif_tr, ↓kif_fl, kif_tr, kif_fl, kif_same, ↓kif_not, ↓kif_or, ↓kifg_tr, ↓kifg_fl, ↓kifg_not, ↓kifg_or, ↓kifg_and, kifg_kif, kifB_t, kifB_f, kifB_ft, kifB_tt, kif_bool, kif_int, mergeL, mergeV, mergeS, mergeRs, kSeq_kif, kBlk_kif, kPost_kif, kNext_kif, kFin_kif, kReg_kif, kOps_kif, kO_kif, kG_kif, kDrw_kif, kW_kif, kOpsW_kif, kRet_kif, map_kif, bind_kif, kWant_t, kWant_f, kWant_kif, ↓execI_pick, kPick_bool, kPick_kif, ↓execI_iadr, kIadr_sl, ↓execI_idxs, kIdxs_str, ↓execI_len, ↓rdB_ld, kRd_ptr, kRd_tptr, kRd_tup, kRd_kif, kOpsW_bs, gt0, st0, gt1, st1, gt2, st2, gt3, st3, gt4, st4, gt5, st5, gt6, st6, gt7, st7, gt8, st8, -kWant_bool, -Int.not_le, -Int.not_lt, -decide_eq_true_eq, -decide_eq_false_iff_not, -List.getD_eq_getElem?_getD, -List.set_cons_succ, -List.set_cons_zero, -Bool.and_eq_true, -Bool.or_eq_true, -Bool.not_eq_eq_eq_not, -Bool.or_eq_false_iff, -Bool.and_eq_false_imp, -Bool.not_eq_true, -Bool.not_eq_false]
        · have d4 : decide (ic pa i 0 = ic pa j 0) = false := by simp [c4]
          unfold c12_b0 c12_r0 c12_a0 T12 bxF
          simp (contextual := true) (maxSteps := 10000000) (implicitDefEqProofs := false) [h1, h3, h4, d0, d1, d2, d3, d3', d4, w1, hrow, hrow2, hlen, r1, r2, lg, tak, dr, gw.all, ga.all, gs.all, gr.all, gb.all, gc.all, gp.all, kIadr_LS gp, callV_pu, q22, appV, elemsOf, roomB, freezeH, fin, Go1_kif, Go1_ret, Go1_normal, Go1_exit, RtF_ret, ex_eq, ex_eq2, tidy, kCond_kc, kc_kif, ↓kif_tr, ↓kif_fl, kif_tr, kif_fl, kif_same, ↓kif_not, ↓kif_or, ↓kifg_tr, ↓kifg_fl, ↓kifg_not, ↓kifg_or, ↓kifg_and, kifg_kif, kifB_t, kifB_f, kifB_ft, kifB_tt, kif_bool, kif_int, mergeL, mergeV, mergeS, mergeRs, kSeq_kif, kBlk_kif, kPost_kif, kNext_kif, kFin_kif, kReg_kif, kOps_kif, kO_kif, kG_kif, kDrw_kif, kW_kif, kOpsW_kif, kRet_kif, map_kif, bind_kif, kWant_t, kWant_f, kWant_kif, ↓execI_pick, kPick_bool, kPick_kif, ↓execI_iadr, kIadr_sl, ↓execI_idxs, kIdxs_str, ↓execI_len, ↓rdB_ld, kRd_ptr, kRd_tptr, kRd_tup, kRd_kif, kOpsW_bs, gt0, st0, gt1, st1, gt2, st2, gt3, st3, gt4, st4, gt5, st5, gt6, st6, gt7, st7, gt8, st8, -kWant_bool, -Int.not_le, -Int.not_lt, -decide_eq_true_eq, -decide_eq_false_iff_not, -List.getD_eq_getElem?_getD, -List.set_cons_succ, -List.set_cons_zero, -Bool.and_eq_true, -Bool.or_eq_true, -Bool.not_eq_eq_eq_not, -Bool.or_eq_false_iff, -Bool.and_eq_false_imp, -Bool.not_eq_true, -Bool.not_eq_false]
end Go.AM.Ytegibclhopenmaa

set_option linter.unusedVariables false
set_option linter.unusedSimpArgs false
namespace Go.AM.Ytegibclhopenmaa
open Go Go.AM
set_option maxRecDepth 100000
set_option maxHeartbeats 0
attribute [local congr] kif_congr
theorem fin_tup2 {fr : List V} {H : Heap} {d : Bool} {a b : Nat} {v w : V} (h1 : fr.getD a .undef = v) (h2 : fr.getD b .undef = w) (hv : v.tree = true) (hw : w.tree = true) : kFin 0 [.t a, .t b] (some (.ret, ⟨fr, H, d⟩)) = some (.tup [v, w], [], d) := by
  have e1 : v.refs = [] := refs_tree hv
  have e2 : w.refs = [] := refs_tree hw
  have e3 : v.ren (place []) = some v := ren_tree hv
  have e4 : w.ren (place []) = some w := ren_tree hw
  simp only [kFin_ret, finish, resV, Option.map_some, Option.bind_some, h1, h2, packV]
  simp [e1, e2, e3, e4, upRefs, reach, pickH, V.refs, refsL, V.ren, renL]
def Good (bl sc pa : V) : Prop := lenV sc = lenV bl ∧ 0 < lenV pa ∧ 0 < lenV bl ∧ ic pa 0 0 = 0 ∧ ∀ j, j < lenV pa → okP bl pa j
def spM (bl sc pa : V) : Nat := (ct bl sc pa (lenV pa - 1)).1.length + 1
def spB (bl sc pa : V) : Blk := ⟨2, (stA bl sc pa (lenV pa - 1)).map rwS, 0, false, true⟩
theorem x12 (call : CallT) (K : Nat) (B : Blk) (bl sc pa : V) (t : St) (ht : I12 B bl sc pa (lenV pa) t) : Nn (execC call pu 0 K c12_b0 t) := by
  obtain ⟨v, H, d, hb, hok, rfl⟩ := ht
  unfold c12_b0 T12
  simp (contextual := true) (maxSteps := 10000000) (implicitDefEqProofs := false) [Nn_exit, kCond_kc, kc_kif, ↓kif_tr, ↓kif_fl, kif_tr, kif_fl, kif_same, ↓kif_not, ↓kif_or, ↓kifg_tr, ↓kifg_fl, ↓kifg_not, ↓kifg_or, ↓kifg_and, kifg_kif, kifB_t, kifB_f, kifB_ft, kifB_tt, kif_bool, kif_int, mergeL, mergeV, mergeS, mergeRs, kSeq_kif, kBlk_kif, kPost_kif, kNext_kif, kFin_kif, kReg_kif, kOps_kif, kO_kif, kG_kif, kDrw_kif, kW_kif, kOpsW_kif, kRet_kif, map_kif, bind_kif, kWant_t, kWant_f, kWant_kif, ↓execI_pick, kPick_bool, kPick_kif, ↓execI_iadr, kIadr_sl, ↓execI_idxs, kIdxs_str, ↓execI_len, ↓rdB_ld, kRd_ptr, kRd_tptr, kRd_tup, kRd_kif, kOpsW_bs, gt0, st0, gt1, st1, gt2, st2, gt3, st3, gt4, st4, gt5, st5, gt6, st6, gt7, st7, gt8, st8, -kWant_bool, -Int.not_le, -Int.not_lt, -decide_eq_true_eq, -decide_eq_false_iff_not, -List.getD_eq_getElem?_getD, -List.set_cons_succ, -List.set_cons_zero, -Bool.and_eq_true, -Bool.or_eq_true, -Bool.not_eq_eq_eq_not, -Bool.or_eq_false_iff, -Bool.and_eq_false_imp, -Bool.not_eq_true, -Bool.not_eq_false]
theorem tot12 (K : Nat) (hK : BIG ≤ K) (nm : ByteArray) (w ar st rt bl : V) (h : OkF nm w ar st rt bl) (sc pa : V) (hs : S28 [sc]) (hp : S22 [pa]) (hn : lenV pa ≤ 60) :
    (Good bl sc pa ∧ ∃ d, callF tbl pu (K + 2) 12 [.agg [.str nm, w, ar, st, rt, bl], sc, pa] [] = some (.tup [.sl 2 0 (spM bl sc pa) 0 (spM bl sc pa), .int .i64 0], [spB bl sc pa], d)) ∨
    (¬ Good bl sc pa ∧ ∃ d, callF tbl pu (K + 2) 12 [.agg [.str nm, w, ar, st, rt, bl], sc, pa] [] = some (.tup [.nils, .int .i64 3], [], d)) := by
  rw [callF_eq tbl12, c12]
  have gw := LS22 h.w
  have ga := LS23 h.ar
  have gs := LS24 h.st
  have gr := LS22 h.rt
  have gb := LS25 h.bl
  have gc := LS28 hs
  have gp := LS22 hp
  by_cases c1 : lenV sc = lenV bl
  case neg =>
    refine .inr ⟨fun hh => c1 hh.1, ?_⟩
    have d1 : decide ((lenV sc : Int) = lenV bl) = false := by simp; omega
    simp (contextual := true) (maxSteps := 10000000) (implicitDefEqProofs := false) [d1, gw.all, ga.all, gs.all, gr.all, gb.all, gc.all, gp.all, kCond_kc, kc_kif, ↓kif_tr, ↓kif_fl, kif_tr, kif_fl, kif_same, ↓kif_not, ↓kif_or, ↓kifg_tr, ↓kifg_fl, ↓kifg_not, ↓kifg_or, ↓kifg_and, kifg_kif, kifB_t, kifB_f, kifB_ft, kifB_tt, kif_bool, kif_int, mergeL, mergeV, mergeS, mergeRs, kSeq_kif, kBlk_kif, kPost_kif, kNext_kif, kFin_kif, kReg_kif, kOps_kif, kO_kif, kG_kif, kDrw_kif, kW_kif, kOpsW_kif, kRet_kif, map_kif, bind_kif, kWant_t, kWant_f, kWant_kif, ↓execI_pick, kPick_bool, kPick_kif, ↓execI_iadr, kIadr_sl, ↓execI_idxs, kIdxs_str, ↓execI_len, ↓rdB_ld, kRd_ptr, kRd_tptr, kRd_tup, kRd_kif, kOpsW_bs, gt0, st0, gt1, st1, gt2, st2, gt3, st3, gt4, st4, gt5, st5, gt6, st6, gt7, st7, gt8, st8, -kWant_bool, -Int.not_le, -Int.not_lt, -decide_eq_true_eq, -decide_eq_false_iff_not, -List.getD_eq_getElem?_getD, -List.set_cons_succ, -List.set_cons_zero, -Bool.and_eq_true, -Bool.or_eq_true, -Bool.not_eq_eq_eq_not, -Bool.or_eq_false_iff, -Bool.and_eq_false_imp, -Bool.not_eq_true, -Bool.not_eq_false]
  have d1 : decide ((lenV sc : Int) = lenV bl) = true := by simp; omega
  by_cases c2 : lenV pa = 0
  · refine .inr ⟨fun hh => by have := hh.2.1; omega, ?_⟩
    simp (contextual := true) (maxSteps := 10000000) (implicitDefEqProofs := false) [d1, c2, gw.all, ga.all, gs.all, gr.all, gb.all, gc.all, gp.all, kCond_kc, kc_kif, ↓kif_tr, ↓kif_fl, kif_tr, kif_fl, kif_same, ↓kif_not, ↓kif_or, ↓kifg_tr, ↓kifg_fl, ↓kifg_not, ↓kifg_or, ↓kifg_and, kifg_kif, kifB_t, kifB_f, kifB_ft, kifB_tt, kif_bool, kif_int, mergeL, mergeV, mergeS, mergeRs, kSeq_kif, kBlk_kif, kPost_kif, kNext_kif, kFin_kif, kReg_kif, kOps_kif, kO_kif, kG_kif, kDrw_kif, kW_kif, kOpsW_kif, kRet_kif, map_kif, bind_kif, kWant_t, kWant_f, kWant_kif, ↓execI_pick, kPick_bool, kPick_kif, ↓execI_iadr, kIadr_sl, ↓execI_idxs, kIdxs_str, ↓execI_len, ↓rdB_ld, kRd_ptr, kRd_tptr, kRd_tup, kRd_kif, kOpsW_bs, gt0, st0, gt1, st1, gt2, st2, gt3, st3, gt4, st4, gt5, st5, gt6, st6, gt7, st7, gt8, st8, -kWant_bool, -Int.not_le, -Int.not_lt, -decide_eq_true_eq, -decide_eq_false_iff_not, -List.getD_eq_getElem?_getD, -List.set_cons_succ, -List.set_cons_zero, -Bool.and_eq_true, -Bool.or_eq_true, -Bool.not_eq_eq_eq_not, -Bool.or_eq_false_iff, -Bool.and_eq_false_imp, -Bool.not_eq_true, -Bool.not_eq_false]
  have d2 : decide ((lenV pa : Int) = 0) = false := by simp; omega
  have d2' : decide (lenV pa = 0) = false := by simp; omega
  by_cases c3 : lenV bl = 0
  · refine .inr ⟨fun hh => by have := hh.2.2.1; omega, ?_⟩
    simp (contextual := true) (maxSteps := 10000000) (implicitDefEqProofs := false) [c1, c3, d2, d2', gw.all, ga.all, gs.all, gr.all, gb.all, gc.all, gp.all, kCond_kc, kc_kif, ↓kif_tr, ↓kif_fl, kif_tr, kif_fl, kif_same, ↓kif_not, ↓kif_or, ↓kifg_tr, ↓kifg_fl, ↓kifg_not, ↓kifg_or, ↓kifg_and, kifg_kif, kifB_t, kifB_f, kifB_ft, kifB_tt, kif_bool, kif_int, mergeL, mergeV, mergeS, mergeRs, kSeq_kif, kBlk_kif, kPost_kif, kNext_kif, kFin_kif, kReg_kif, kOps_kif, kO_kif, kG_kif, kDrw_kif, kW_kif, kOpsW_kif, kRet_kif, map_kif, bind_kif, kWant_t, kWant_f, kWant_kif, ↓execI_pick, kPick_bool, kPick_kif, ↓execI_iadr, kIadr_sl, ↓execI_idxs, kIdxs_str, ↓execI_len, ↓rdB_ld, kRd_ptr, kRd_tptr, kRd_tup, kRd_kif, kOpsW_bs, gt0, st0, gt1, st1, gt2, st2, gt3, st3, gt4, st4, gt5, st5, gt6, st6, gt7, st7, gt8, st8, -kWant_bool, -Int.not_le, -Int.not_lt, -decide_eq_true_eq, -decide_eq_false_iff_not, -List.getD_eq_getElem?_getD, -List.set_cons_succ, -List.set_cons_zero, -Bool.and_eq_true, -Bool.or_eq_true, -Bool.not_eq_eq_eq_not, -Bool.or_eq_false_iff, -Bool.and_eq_false_imp, -Bool.not_eq_true, -Bool.not_eq_false]
  have d3 : decide ((lenV bl : Int) = 0) = false := by simp; omega
  have d3' : decide (lenV bl = 0) = false := by simp; omega
  have hrow := (e22 hp (i := 0) (by omega)).1
  have d5 : decide ((lenV pa : Int) ≤ 0) = false := by simp; omega
  by_cases c4 : ic pa 0 0 = 0
  case neg =>
    refine .inr ⟨fun hh => c4 hh.2.2.2.1, ?_⟩
    have d4 : decide (ic pa 0 0 = 0) = false := by simp [c4]
    simp (contextual := true) (maxSteps := 10000000) (implicitDefEqProofs := false) [d1, d2, d2', d3, d3', d4, d5, hrow, gw.all, ga.all, gs.all, gr.all, gb.all, gc.all, gp.all, kIadr_LS gp, kCond_kc, kc_kif, ↓kif_tr, ↓kif_fl, kif_tr, kif_fl, kif_same, ↓kif_not, ↓kif_or, ↓kifg_tr, ↓kifg_fl, ↓kifg_not, ↓kifg_or, ↓kifg_and, kifg_kif, kifB_t, kifB_f, kifB_ft, kifB_tt, kif_bool, kif_int, mergeL, mergeV, mergeS, mergeRs, kSeq_kif, kBlk_kif, kPost_kif, kNext_kif, kFin_kif, kReg_kif, kOps_kif, kO_kif, kG_kif, kDrw_kif, kW_kif, kOpsW_kif, kRet_kif, map_kif, bind_kif, kWant_t, kWant_f, kWant_kif, ↓execI_pick, kPick_bool, kPick_kif, ↓execI_iadr, kIadr_sl, ↓execI_idxs, kIdxs_str, ↓execI_len, ↓rdB_ld, kRd_ptr, kRd_tptr, kRd_tup, kRd_kif, kOpsW_bs, gt0, st0, gt1, st1, gt2, st2, gt3, st3, gt4, st4, gt5, st5, gt6, st6, gt7, st7, gt8, st8, -kWant_bool, -Int.not_le, -Int.not_lt, -decide_eq_true_eq, -decide_eq_false_iff_not, -List.getD_eq_getElem?_getD, -List.set_cons_succ, -List.set_cons_zero, -Bool.and_eq_true, -Bool.or_eq_true, -Bool.not_eq_eq_eq_not, -Bool.or_eq_false_iff, -Bool.and_eq_false_imp, -Bool.not_eq_true, -Bool.not_eq_false]
  have d4 : decide (ic pa 0 0 = 0) = true := by simp [c4]
  have M1 : lenV pa < K + 1 := big_lt (by simp only [LMAX]; omega) (big_add 1 hK)
  rcases loop_go (t0 := T12 sc pa .nils [bxF nm w ar st rt bl] 0 false) (pre := tidy [1, 2, 3, 8, 34, 35, 36] 0) (fun j t hj ht => g12 K hK nm w ar st rt bl h sc pa hs hp hn c4 (by omega) j hj t ht) (fun t ht => x12 (callF tbl pu (K + 1)) (K + 1) _ _ _ _ t ht) ⟨_, _, _, .inl ⟨rfl, rfl, rfl⟩, fun i hi => absurd hi (by omega), rfl⟩ with ⟨t, ⟨v, H, d, hb, hok, rfl⟩, hl⟩ | ⟨r, ⟨hbad, r1, r2, r3⟩, hl⟩
  · refine .inl ⟨⟨c1, by omega, by omega, c4, hok⟩, ?_⟩
    rcases hb with ⟨hj0, -, -⟩ | ⟨hj0, rfl, rfl⟩
    · omega
    have hlen : ((stA bl sc pa (lenV pa - 1)).map rwS).length = (ct bl sc pa (lenV pa - 1)).1.length + 1 := by simp [stA]
    simp (contextual := true) (maxSteps := 10000000) (implicitDefEqProofs := false) [d1, d2, d2', d3, d3', d4, d5, hrow, gw.all, ga.all, gs.all, gr.all, gb.all, gc.all, gp.all, kIadr_LS gp, execC_loop, -kIter_succ, kCond_kc, kc_kif, ↓kif_tr, ↓kif_fl, kif_tr, kif_fl, kif_same, ↓kif_not, ↓kif_or, ↓kifg_tr, ↓kifg_fl, ↓kifg_not, ↓kifg_or, ↓kifg_and, kifg_kif, kifB_t, kifB_f, kifB_ft, kifB_tt, kif_bool, kif_int, mergeL, mergeV, mergeS, mergeRs, kSeq_kif, kBlk_kif, kPost_kif, kNext_kif, kFin_kif, kReg_kif, kOps_kif, kO_kif, kG_kif, kDrw_kif, kW_kif, kOpsW_kif, kRet_kif, map_kif, bind_kif, kWant_t, kWant_f, kWant_kif, ↓execI_pick, kPick_bool, kPick_kif, ↓execI_iadr, kIadr_sl, ↓execI_idxs, kIdxs_str, ↓execI_len, ↓rdB_ld, kRd_ptr, kRd_tptr, kRd_tup, kRd_kif, kOpsW_bs, gt0, st0, gt1, st1, gt2, st2, gt3, st3, gt4, st4, gt5, st5, gt6, st6, gt7, st7, gt8, st8, -kWant_bool, -Int.not_le, -Int.not_lt, -decide_eq_true_eq, -decide_eq_false_iff_not, -List.getD_eq_getElem?_getD, -List.set_cons_succ, -List.set_cons_zero, -Bool.and_eq_true, -Bool.or_eq_true, -Bool.not_eq_eq_eq_not, -Bool.or_eq_false_iff, -Bool.and_eq_false_imp, -Bool.not_eq_true, -Bool.not_eq_false]
    rw [hl _ _ M1 (by simp (contextual := true) (maxSteps := 10000000) (implicitDefEqProofs := false) [T12, bxF, tidy, gw.all, ga.all, gs.all, gr.all, gb.all, gc.all, gp.all, kCond_kc, kc_kif, ↓kif_tr, ↓kif_fl, kif_tr, kif_fl, kif_same, ↓kif_not, ↓kif_or, ↓kifg_tr, ↓kifg_fl, ↓kifg_not, ↓kifg_or, ↓kifg_and, kifg_kif, kifB_t, kifB_f, kifB_ft, kifB_tt, kif_bool, kif_int, mergeL, mergeV, mergeS, mergeRs, kSeq_kif, kBlk_kif, kPost_kif, kNext_kif, kFin_kif, kReg_kif, kOps_kif, kO_kif, kG_kif, kDrw_kif, kW_kif, kOpsW_kif, kRet_kif, map_kif, bind_kif, kWant_t, kWant_f, kWant_kif, ↓execI_pick, kPick_bool, kPick_kif, ↓execI_iadr, kIadr_sl, ↓execI_idxs, kIdxs_str, ↓execI_len, ↓rdB_ld, kRd_ptr, kRd_tptr, kRd_tup, kRd_kif, kOpsW_bs, gt0, st0, gt1, st1, gt2, st2, gt3, st3, gt4, st4, gt5, st5, gt6, st6, gt7, st7, gt8, st8, -kWant_bool, -Int.not_le, -Int.not_lt, -decide_eq_true_eq, -decide_eq_false_iff_not, -List.getD_eq_getElem?_getD, -List.set_cons_succ, -List.set_cons_zero, -Bool.and_eq_true, -Bool.or_eq_true, -Bool.not_eq_eq_eq_not, -Bool.or_eq_false_iff, -Bool.and_eq_false_imp, -Bool.not_eq_true, -Bool.not_eq_false])]
    unfold spM spB
    generalize (stA bl sc pa (lenV pa - 1)).map rwS = es at *
    simp (contextual := true) (maxSteps := 10000000) (implicitDefEqProofs := false) [T12, c12_b0, bxF, gw.all, ga.all, gs.all, gr.all, gb.all, gc.all, gp.all, hlen, kCond_kc, kc_kif, ↓kif_tr, ↓kif_fl, kif_tr, kif_fl, kif_same, ↓kif_not, ↓kif_or, ↓kifg_tr, ↓kifg_fl, ↓kifg_not, ↓kifg_or, ↓kifg_and, kifg_kif, kifB_t, kifB_f, kifB_ft, kifB_tt, kif_bool, kif_int, mergeL, mergeV, mergeS, mergeRs, kSeq_kif, kBlk_kif, kPost_kif, kNext_kif, kFin_kif, kReg_kif, kOps_kif, kO_kif, kG_kif, kDrw_kif, kW_kif, kOpsW_kif, kRet_kif, map_kif, bind_kif, kWant_t, kWant_f, kWant_kif, ↓execI_pick, kPick_bool, kPick_kif, ↓execI_iadr, kIadr_sl, ↓execI_idxs, kIdxs_str, ↓execI_len, ↓rdB_ld, kRd_ptr, kRd_tptr, kRd_tup, kRd_kif, kOpsW_bs, gt0, st0, gt1, st1, gt2, st2, gt3, st3, gt4, st4, gt5, st5, gt6, st6, gt7, st7, gt8, st8, -kWant_bool, -Int.not_le, -Int.not_lt, -decide_eq_true_eq, -decide_eq_false_iff_not, -List.getD_eq_getElem?_getD, -List.set_cons_succ, -List.set_cons_zero, -Bool.and_eq_true, -Bool.or_eq_true, -Bool.not_eq_eq_eq_not, -Bool.or_eq_false_iff, -Bool.and_eq_false_imp, -Bool.not_eq_true, -Bool.not_eq_false]
  · refine .inr ⟨fun hh => hbad hh.2.2.2.2, ?_⟩
    obtain ⟨e, fr, H, d⟩ := r
    dsimp only at r1 r2 r3
    subst r1
    simp (contextual := true) (maxSteps := 10000000) (implicitDefEqProofs := false) [d1, d2, d2', d3, d3', d4, d5, hrow, gw.all, ga.all, gs.all, gr.all, gb.all, gc.all, gp.all, kIadr_LS gp, execC_loop, -kIter_succ, kCond_kc, kc_kif, ↓kif_tr, ↓kif_fl, kif_tr, kif_fl, kif_same, ↓kif_not, ↓kif_or, ↓kifg_tr, ↓kifg_fl, ↓kifg_not, ↓kifg_or, ↓kifg_and, kifg_kif, kifB_t, kifB_f, kifB_ft, kifB_tt, kif_bool, kif_int, mergeL, mergeV, mergeS, mergeRs, kSeq_kif, kBlk_kif, kPost_kif, kNext_kif, kFin_kif, kReg_kif, kOps_kif, kO_kif, kG_kif, kDrw_kif, kW_kif, kOpsW_kif, kRet_kif, map_kif, bind_kif, kWant_t, kWant_f, kWant_kif, ↓execI_pick, kPick_bool, kPick_kif, ↓execI_iadr, kIadr_sl, ↓execI_idxs, kIdxs_str, ↓execI_len, ↓rdB_ld, kRd_ptr, kRd_tptr, kRd_tup, kRd_kif, kOpsW_bs, gt0, st0, gt1, st1, gt2, st2, gt3, st3, gt4, st4, gt5, st5, gt6, st6, gt7, st7, gt8, st8, -kWant_bool, -Int.not_le, -Int.not_lt, -decide_eq_true_eq, -decide_eq_false_iff_not, -List.getD_eq_getElem?_getD, -List.set_cons_succ, -List.set_cons_zero, -Bool.and_eq_true, -Bool.or_eq_true, -Bool.not_eq_eq_eq_not, -Bool.or_eq_false_iff, -Bool.and_eq_false_imp, -Bool.not_eq_true, -Bool.not_eq_false]
    rw [hl _ _ M1 (by simp (contextual := true) (maxSteps := 10000000) (implicitDefEqProofs := false) [T12, bxF, tidy, gw.all, ga.all, gs.all, gr.all, gb.all, gc.all, gp.all, kCond_kc, kc_kif, ↓kif_tr, ↓kif_fl, kif_tr, kif_fl, kif_same, ↓kif_not, ↓kif_or, ↓kifg_tr, ↓kifg_fl, ↓kifg_not, ↓kifg_or, ↓kifg_and, kifg_kif, kifB_t, kifB_f, kifB_ft, kifB_tt, kif_bool, kif_int, mergeL, mergeV, mergeS, mergeRs, kSeq_kif, kBlk_kif, kPost_kif, kNext_kif, kFin_kif, kReg_kif, kOps_kif, kO_kif, kG_kif, kDrw_kif, kW_kif, kOpsW_kif, kRet_kif, map_kif, bind_kif, kWant_t, kWant_f, kWant_kif, ↓execI_pick, kPick_bool, kPick_kif, ↓execI_iadr, kIadr_sl, ↓execI_idxs, kIdxs_str, ↓execI_len, ↓rdB_ld, kRd_ptr, kRd_tptr, kRd_tup, kRd_kif, kOpsW_bs, gt0, st0, gt1, st1, gt2, st2, gt3, st3, gt4, st4, gt5, st5, gt6, st6, gt7, st7, gt8, st8, -kWant_bool, -Int.not_le, -Int.not_lt, -decide_eq_true_eq, -decide_eq_false_iff_not, -List.getD_eq_getElem?_getD, -List.set_cons_succ, -List.set_cons_zero, -Bool.and_eq_true, -Bool.or_eq_true, -Bool.not_eq_eq_eq_not, -Bool.or_eq_false_iff, -Bool.and_eq_false_imp, -Bool.not_eq_true, -Bool.not_eq_false])]
    simp (contextual := true) (maxSteps := 10000000) (implicitDefEqProofs := false) [fin_tup2 r2 r3 rfl rfl, kCond_kc, kc_kif, ↓kif_tr, ↓kif_fl, kif_tr, kif_fl, kif_same, ↓kif_not, ↓kif_or, ↓kifg_tr, ↓kifg_fl, ↓kifg_not, ↓kifg_or, ↓kifg_and, kifg_kif, kifB_t, kifB_f, kifB_ft, kifB_tt, kif_bool, kif_int, mergeL, mergeV, mergeS, mergeRs, kSeq_kif, kBlk_kif, kPost_kif, kNext_kif, kFin_kif, kReg_kif, kOps_kif, kO_kif, kG_kif, kDrw_kif, kW_kif, kOpsW_kif, kRet_kif, map_kif, bind_kif, kWant_t, kWant_f, kWant_kif, ↓execI_pick, kPick_bool, kPick_kif, ↓execI_iadr, kIadr_sl, ↓execI_idxs, kIdxs_str, ↓execI_len, ↓rdB_ld, kRd_ptr, kRd_tptr, kRd_tup, kRd_kif, kOpsW_bs, gt0, st0, gt1, st1, gt2, st2, gt3, st3, gt4, st4, gt5, st5, gt6, st6, gt7, st7, gt8, st8, -kWant_bool, -Int.not_le, -Int.not_lt, -decide_eq_true_eq, -decide_eq_false_iff_not, -List.getD_eq_getElem?_getD, -List.set_cons_succ, -List.set_cons_zero, -Bool.and_eq_true, -Bool.or_eq_true, -Bool.not_eq_eq_eq_not, -Bool.or_eq_false_iff, -Bool.and_eq_false_imp, -Bool.not_eq_true, -Bool.not_eq_false]
end Go.AM.Ytegibclhopenmaa
