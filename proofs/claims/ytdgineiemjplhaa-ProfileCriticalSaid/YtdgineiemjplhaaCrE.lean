/- bounds.usage. -/
import Derived.Test.YtdgineiemjplhaaCrC
set_option linter.unusedVariables false
set_option linter.unusedSimpArgs false
namespace Go.AM.Ytdgineiemjplhaa
open Go Go.AM
set_option maxRecDepth 100000
set_option maxHeartbeats 0
attribute [local congr] kif_congr
def rwU (g : Nat → Int) (m : Nat) : List (List V) := (List.range m).map fun r => [.int .i64 (g r)]
def bxU (g : Nat → Int) (m : Nat) : Blk := ⟨1, rwU g m, 0, false, true⟩
theorem rwU_len (g : Nat → Int) (m : Nat) : (rwU g m).length = m := by simp [rwU]
theorem rwU_get {g : Nat → Int} {m i : Nat} (h : i < m) : (rwU g m)[i]? = some [.int .i64 (g i)] := by simp [rwU, h]
theorem rwU_set {g g' : Nat → Int} {m i : Nat} {x : Int} (h : i < m) (h1 : g' i = x) (h2 : ∀ j, j ≠ i → g' j = g j) : (rwU g m).set i [.int .i64 x] = rwU g' m := by
  refine List.ext_getElem (by simp [rwU]) fun j h3 h4 => ?_
  simp only [rwU, List.getElem_set, List.getElem_map, List.getElem_range]
  split
  · rename_i e; subst e; rw [h1]
  · rename_i e; rw [h2 j (fun e' => e e'.symm)]
theorem rwU_same {g g' : Nat → Int} {m : Nat} (h : ∀ i, i < m → g' i = g i) : rwU g m = rwU g' m := by
  unfold rwU
  exact List.map_congr_left fun i hi => by rw [h i (List.mem_range.1 hi)]
theorem rwU_zero (m : Nat) : List.replicate m [V.int .i64 0] = rwU (fun _ => 0) m := by
  refine List.ext_getElem (by simp [rwU]) fun j h3 h4 => ?_
  simp [rwU]
def sumF (N : List Nd) (j : Nat) (r : Nat) : Int := sumN N r j
def lonF (N : List Nd) (j : Nat) (r : Nat) : Int := lonN N r j
theorem lonN_bound (l : List Nd) (r : Int) (h : ∀ x ∈ l, 0 ≤ x.bu ∧ x.bu ≤ 256) : ∀ j, 0 ≤ lonN l r j ∧ lonN l r j ≤ 256
  | 0 => by simp [lonN]
  | j + 1 => by
    have ih := lonN_bound l r h j
    simp only [lonN]
    cases hx : l[j]? with
    | none => simp only; omega
    | some x =>
      have := h x (List.mem_iff_getElem?.mpr ⟨j, hx⟩)
      simp only [imax]
      split
      · split <;> omega
      · omega
def T23 (vn : V) (m nn j : Nat) (H : Heap) (d : Bool) : St := ⟨[.undef, .undef, .sl 1 0 m 0 m, .sl 1 1 m 0 m, .undef, .undef, .undef, .undef, .undef, .undef, .undef, .undef, .undef, .undef, .undef, vn, .int .i64 nn, .int .i64 j, .undef, .undef, .undef, .undef, .undef, .undef, .undef, .undef, .undef, .undef, .undef, .undef, .undef, .undef, .undef, .undef, .undef, .undef, .undef, .undef, .undef, .undef, .undef, .undef, .undef, .undef, .undef, .undef, .undef, .undef], H, d⟩
def I23 (f : Fl) (j : Nat) (t : St) : Prop := ∃ d, t = T23 f.vn f.R.length f.N.length j [bxU (sumF f.N j) f.R.length, bxU (lonF f.N j) f.R.length] d
theorem g23 (call : CallT) (K : Nat) (f : Fl) (hf : f.Ok) (hR : f.R.length ≤ 6) (hN : f.N.length ≤ 20) (hv : ∀ x ∈ f.N, ndB f.R.length x) (j : Nat) (hj : j < f.N.length) (t : St) (ht : I23 f j t) :
    Go1 (tidy [2, 3, 15, 16, 17] 0) (I23 f (j + 1)) (fun _ => False) (execC call pu 0 K c23_b0 t) := by
  obtain ⟨d, rfl⟩ := ht
  have gn := Sl.ls hf.n
  have hln := lenN hf
  have h1 : IntKind.i64.wrap ((j : Int) + 1) = (j : Int) + 1 := wrap64 (by omega) (by omega)
  have h3 : decide (f.N.length ≤ j) = false := by simp; omega
  have h4 : decide (j < f.N.length) = true := by simp; omega
  have hr := rowN hf hj
  have hxj : f.N[j]? = some (ndAt f.N j) := by simp [ndAt, hj]
  have hbu : ∀ x ∈ f.N, 0 ≤ x.bu ∧ x.bu ≤ 256 := fun x hx => by
    rcases hv x hx with ⟨-, h⟩ | ⟨-, h⟩
    · omega
    · have := btw_iff.1 h; omega
  have hx := hv (ndAt f.N j) (List.mem_of_getElem? hxj)
  have hs1 : ∀ r : Nat, sumF f.N (j + 1) r = sumF f.N j r + if (ndAt f.N j).rs = r then (ndAt f.N j).bu else 0 := fun r => by simp only [sumF, sumN, hxj]
  have hl1 : ∀ r : Nat, lonF f.N (j + 1) r = if (ndAt f.N j).rs = r then imax (lonF f.N j r) (ndAt f.N j).bu else lonF f.N j r := fun r => by simp only [lonF, lonN, hxj]
  have hsb := fun r : Nat => sumN_bound f.N r hbu j
  unfold I23
  generalize ndAt f.N j = x at *
  obtain ⟨rs, bu⟩ := x
  simp only at *
  rcases hx with ⟨hx1, hx2⟩ | ⟨hx1, hx2⟩
  · simp only at hx1 hx2
    have e1 : decide (0 ≤ rs) = false := by simp; omega
    have es : rwU (sumF f.N j) f.R.length = rwU (sumF f.N (j + 1)) f.R.length := rwU_same fun i _ => by rw [hs1, if_neg (by omega)]; omega
    have el : rwU (lonF f.N j) f.R.length = rwU (lonF f.N (j + 1)) f.R.length := rwU_same fun i _ => by rw [hl1, if_neg (by omega)]
    generalize hII : (fun t => ∃ d, t = T23 f.vn f.R.length f.N.length (j + 1) [bxU (sumF f.N (j + 1)) f.R.length, bxU (lonF f.N (j + 1)) f.R.length] d) = II
    have fin : ∀ d, II (T23 f.vn f.R.length f.N.length (j + 1) [bxU (sumF f.N (j + 1)) f.R.length, bxU (lonF f.N (j + 1)) f.R.length] d) := fun d => by rw [← hII]; exact ⟨d, rfl⟩
    simp only [T23, bxU, Int.natCast_add, Int.natCast_one] at fin
    rw [← es, ← el] at fin
    unfold c23_b0 T23 bxU
    generalize rwU (sumF f.N j) f.R.length = r1 at *
    generalize rwU (lonF f.N j) f.R.length = r2 at *
    simp (contextual := true) (maxSteps := 10000000) (implicitDefEqProofs := false) [hln, h1, h3, h4, hr, e1, gn.all, kIadr_LS gn, freezeH, fin, Go1_kif, Go1_ret, Go1_normal, Go1_exit, RtF_ret, ex_eq, ex_eq2, tidy, kCond_kc, kc_kif, ↓kif_tr, ↓kif_fl, kif_tr, kif_fl, kif_same, ↓kif_not, ↓kif_or, ↓kifg_tr, ↓kifg_fl, ↓kifg_not, ↓kifg_or, ↓kifg_and, kifg_kif, kifB_t, kifB_f, kifB_ft, kifB_tt, kif_bool, kif_int, mergeL, mergeV, mergeS, mergeRs, kSeq_kif, kBlk_kif, kPost_kif, kNext_kif, kFin_kif, kReg_kif, kOps_kif, kO_kif, kG_kif, kDrw_kif, kW_kif, kOpsW_kif, kRet_kif, map_kif, bind_kif, kWant_t, kWant_f, kWant_kif, ↓execI_pick, kPick_bool, kPick_kif, ↓execI_iadr, kIadr_sl, ↓execI_idxs, kIdxs_str, ↓execI_len, ↓rdB_ld, kRd_ptr, kRd_tptr, kRd_tup, kRd_kif, kOpsW_bs, gt0, st0, gt1, st1, gt2, st2, gt3, st3, gt4, st4, gt5, st5, gt6, st6, gt7, st7, gt8, st8, -kWant_bool, -Int.not_le, -Int.not_lt, -decide_eq_true_eq, -decide_eq_false_iff_not, -List.getD_eq_getElem?_getD, -List.set_cons_succ, -List.set_cons_zero, -Bool.and_eq_true, -Bool.or_eq_true, -Bool.not_eq_eq_eq_not, -Bool.or_eq_false_iff, -Bool.and_eq_false_imp, -Bool.not_eq_true, -Bool.not_eq_false]
  · simp only at hx1 hx2
    have b1 := btw_iff.1 hx1
    have b2 := btw_iff.1 hx2
    obtain ⟨r, rfl⟩ : ∃ r : Nat, rs = r := ⟨rs.toNat, by omega⟩
    have hrl : r < f.R.length := by omega
    have e1 : decide ((0 : Int) ≤ r) = true := by simp
    have e2 : decide (f.R.length ≤ r) = false := by simp; omega
    have w1 : IntKind.i64.wrap (sumF f.N j r + bu) = sumF f.N j r + bu := wrap64 (by have := hsb r; unfold sumF; omega) (by have := hsb r; unfold sumF; omega)
    have s1 : (rwU (sumF f.N j) f.R.length).set r [.int .i64 (sumF f.N j r + bu)] = rwU (sumF f.N (j + 1)) f.R.length := rwU_set hrl (by rw [hs1, if_pos rfl]) fun i hi => by rw [hs1, if_neg (by omega)]; omega
    have s2 : (rwU (lonF f.N j) f.R.length).set r [.int .i64 (imax (lonF f.N j r) bu)] = rwU (lonF f.N (j + 1)) f.R.length := rwU_set hrl (by rw [hl1, if_pos rfl]) fun i hi => by rw [hl1, if_neg (by omega)]
    have g1 := rwU_get (g := sumF f.N j) hrl
    have g2 := rwU_get (g := lonF f.N j) hrl
    have l1 := rwU_len (sumF f.N j) f.R.length
    have l2 := rwU_len (lonF f.N j) f.R.length
    have l3 := rwU_len (sumF f.N (j + 1)) f.R.length
    generalize hII : (fun t => ∃ d, t = T23 f.vn f.R.length f.N.length (j + 1) [bxU (sumF f.N (j + 1)) f.R.length, bxU (lonF f.N (j + 1)) f.R.length] d) = II
    have fin : ∀ d, II (T23 f.vn f.R.length f.N.length (j + 1) [bxU (sumF f.N (j + 1)) f.R.length, bxU (lonF f.N (j + 1)) f.R.length] d) := fun d => by rw [← hII]; exact ⟨d, rfl⟩
    simp only [T23, bxU, Int.natCast_add, Int.natCast_one] at fin
    unfold c23_b0 T23 bxU
    generalize rwU (sumF f.N (j + 1)) f.R.length = r1' at *
    generalize rwU (lonF f.N (j + 1)) f.R.length = r2' at *
    generalize rwU (sumF f.N j) f.R.length = r1 at *
    generalize rwU (lonF f.N j) f.R.length = r2 at *
    generalize sumF f.N j r = q1 at *
    generalize lonF f.N j r = q2 at *
    have hb0 : barrierW c23_r0 c23_a0 [(2, false, [2]), (4, false, [0]), (6, false, [2]), (9, true, [0])] 9 [0] = true := by decide
    have hb1 : barrierW c23_r1 c23_a1 [(2, false, [2]), (5, false, [2]), (7, false, [1]), (9, false, [2]), (12, true, [1])] 12 [1] = true := by decide
    unfold c23_r0 c23_a0 at hb0
    unfold c23_r1 c23_a1 at hb1
    simp (contextual := true) (maxSteps := 10000000) (implicitDefEqProofs := false) [c23_r0, c23_a0, c23_r1, c23_a1, hb0, hb1, hln, h1, h3, h4, hr, e1, e2, w1, s1, s2, g1, g2, l1, l2, l3, -getElem?_pos, List.getElem?_cons_zero, List.getElem?_cons_succ, gn.all, kIadr_LS gn, freezeH, fin, Go1_kif, Go1_ret, Go1_normal, Go1_exit, RtF_ret, ex_eq, ex_eq2, tidy, kCond_kc, kc_kif, ↓kif_tr, ↓kif_fl, kif_tr, kif_fl, kif_same, ↓kif_not, ↓kif_or, ↓kifg_tr, ↓kifg_fl, ↓kifg_not, ↓kifg_or, ↓kifg_and, kifg_kif, kifB_t, kifB_f, kifB_ft, kifB_tt, kif_bool, kif_int, mergeL, mergeV, mergeS, mergeRs, kSeq_kif, kBlk_kif, kPost_kif, kNext_kif, kFin_kif, kReg_kif, kOps_kif, kO_kif, kG_kif, kDrw_kif, kW_kif, kOpsW_kif, kRet_kif, map_kif, bind_kif, kWant_t, kWant_f, kWant_kif, ↓execI_pick, kPick_bool, kPick_kif, ↓execI_iadr, kIadr_sl, ↓execI_idxs, kIdxs_str, ↓execI_len, ↓rdB_ld, kRd_ptr, kRd_tptr, kRd_tup, kRd_kif, kOpsW_bs, gt0, st0, gt1, st1, gt2, st2, gt3, st3, gt4, st4, gt5, st5, gt6, st6, gt7, st7, gt8, st8, -kWant_bool, -Int.not_le, -Int.not_lt, -decide_eq_true_eq, -decide_eq_false_iff_not, -List.getD_eq_getElem?_getD, -List.set_cons_succ, -List.set_cons_zero, -Bool.and_eq_true, -Bool.or_eq_true, -Bool.not_eq_eq_eq_not, -Bool.or_eq_false_iff, -Bool.and_eq_false_imp, -Bool.not_eq_true, -Bool.not_eq_false]
theorem x23 (call : CallT) (K : Nat) (f : Fl) (t : St) (ht : I23 f f.N.length t) : Nn (execC call pu 0 K c23_b0 t) := by
  obtain ⟨d, rfl⟩ := ht
  unfold c23_b0 T23
  simp (contextual := true) (maxSteps := 10000000) (implicitDefEqProofs := false) [Nn_exit, kCond_kc, kc_kif, ↓kif_tr, ↓kif_fl, kif_tr, kif_fl, kif_same, ↓kif_not, ↓kif_or, ↓kifg_tr, ↓kifg_fl, ↓kifg_not, ↓kifg_or, ↓kifg_and, kifg_kif, kifB_t, kifB_f, kifB_ft, kifB_tt, kif_bool, kif_int, mergeL, mergeV, mergeS, mergeRs, kSeq_kif, kBlk_kif, kPost_kif, kNext_kif, kFin_kif, kReg_kif, kOps_kif, kO_kif, kG_kif, kDrw_kif, kW_kif, kOpsW_kif, kRet_kif, map_kif, bind_kif, kWant_t, kWant_f, kWant_kif, ↓execI_pick, kPick_bool, kPick_kif, ↓execI_iadr, kIadr_sl, ↓execI_idxs, kIdxs_str, ↓execI_len, ↓rdB_ld, kRd_ptr, kRd_tptr, kRd_tup, kRd_kif, kOpsW_bs, gt0, st0, gt1, st1, gt2, st2, gt3, st3, gt4, st4, gt5, st5, gt6, st6, gt7, st7, gt8, st8, -kWant_bool, -Int.not_le, -Int.not_lt, -decide_eq_true_eq, -decide_eq_false_iff_not, -List.getD_eq_getElem?_getD, -List.set_cons_succ, -List.set_cons_zero, -Bool.and_eq_true, -Bool.or_eq_true, -Bool.not_eq_eq_eq_not, -Bool.or_eq_false_iff, -Bool.and_eq_false_imp, -Bool.not_eq_true, -Bool.not_eq_false]
/-- returns v, and blocks behind it -/
def RtH (v : V) (Hs : Heap) (x : Res) : Prop := ∃ d, x = some (v, Hs, d)
theorem RtH_some {v v' : V} {Hs Hs' : Heap} {d : Bool} : RtH v Hs (some (v', Hs', d)) = (v' = v ∧ Hs' = Hs) := by simp [RtH]
theorem tot23 (K : Nat) (f : Fl) (hf : f.Ok) (hR : f.R.length ≤ 6) (hN : f.N.length ≤ 20) (hv : ∀ x ∈ f.N, ndB f.R.length x) (hK : 1000 ≤ K) :
    RtH (.tup [.sl 1 0 f.R.length 0 f.R.length, .sl 1 1 f.R.length 0 f.R.length]) [bxU (sumF f.N f.N.length) f.R.length, bxU (lonF f.N f.N.length) f.R.length] (callF tbl pu (K + 1) 23 [f.v] []) := by
  unfold Fl.v
  rw [callF_eq tbl23, c23]
  have ga := Sl.ls hf.a
  have gr := Sl.ls hf.r
  have gn := Sl.ls hf.n
  have hln := lenN hf
  have hlr := lenR hf
  have M1 : f.N.length < K := by omega
  have z1 : rwU (sumF f.N 0) f.R.length = rwU (fun _ => 0) f.R.length := rfl
  have z2 : rwU (lonF f.N 0) f.R.length = rwU (fun _ => 0) f.R.length := rfl
  have hz := rwU_zero f.R.length
  have l0 := rwU_len (fun _ => 0) f.R.length
  have l1 := rwU_len (sumF f.N f.N.length) f.R.length
  have l2 := rwU_len (lonF f.N f.N.length) f.R.length
  have q1 : f.R.length * 8 ≤ 140737488351232 := by omega
  have q2 : f.R.length ≤ 140737488351232 := by omega
  have q3 : roomB f.R.length 8 = true := by simp [roomB]; omega
  rcases loop_go (t0 := T23 f.vn f.R.length f.N.length 0 [bxU (sumF f.N 0) f.R.length, bxU (lonF f.N 0) f.R.length] false) (pre := tidy [2, 3, 15, 16, 17] 0) (fun j t hj ht => g23 (callF tbl pu K) K f hf hR hN hv j hj t ht) (fun t ht => x23 (callF tbl pu K) K f t ht) ⟨false, rfl⟩ with ⟨t, ⟨d, rfl⟩, hl⟩ | ⟨r, hr, hl⟩
  case inr => exact hr.elim
  unfold bxU at *
  rw [z1, z2] at hl
  simp (contextual := true) (maxSteps := 10000000) (implicitDefEqProofs := false) [hln, hlr, hz, l0, q1, q2, q3, ga.all, gr.all, gn.all, execC_loop, -kIter_succ, kCond_kc, kc_kif, ↓kif_tr, ↓kif_fl, kif_tr, kif_fl, kif_same, ↓kif_not, ↓kif_or, ↓kifg_tr, ↓kifg_fl, ↓kifg_not, ↓kifg_or, ↓kifg_and, kifg_kif, kifB_t, kifB_f, kifB_ft, kifB_tt, kif_bool, kif_int, mergeL, mergeV, mergeS, mergeRs, kSeq_kif, kBlk_kif, kPost_kif, kNext_kif, kFin_kif, kReg_kif, kOps_kif, kO_kif, kG_kif, kDrw_kif, kW_kif, kOpsW_kif, kRet_kif, map_kif, bind_kif, kWant_t, kWant_f, kWant_kif, ↓execI_pick, kPick_bool, kPick_kif, ↓execI_iadr, kIadr_sl, ↓execI_idxs, kIdxs_str, ↓execI_len, ↓rdB_ld, kRd_ptr, kRd_tptr, kRd_tup, kRd_kif, kOpsW_bs, gt0, st0, gt1, st1, gt2, st2, gt3, st3, gt4, st4, gt5, st5, gt6, st6, gt7, st7, gt8, st8, -kWant_bool, -Int.not_le, -Int.not_lt, -decide_eq_true_eq, -decide_eq_false_iff_not, -List.getD_eq_getElem?_getD, -List.set_cons_succ, -List.set_cons_zero, -Bool.and_eq_true, -Bool.or_eq_true, -Bool.not_eq_eq_eq_not, -Bool.or_eq_false_iff, -Bool.and_eq_false_imp, -Bool.not_eq_true, -Bool.not_eq_false]
  rw [hl _ _ M1 (by simp (contextual := true) (maxSteps := 10000000) (implicitDefEqProofs := false) [T23, tidy, ga.all, gr.all, gn.all, hln, kCond_kc, kc_kif, ↓kif_tr, ↓kif_fl, kif_tr, kif_fl, kif_same, ↓kif_not, ↓kif_or, ↓kifg_tr, ↓kifg_fl, ↓kifg_not, ↓kifg_or, ↓kifg_and, kifg_kif, kifB_t, kifB_f, kifB_ft, kifB_tt, kif_bool, kif_int, mergeL, mergeV, mergeS, mergeRs, kSeq_kif, kBlk_kif, kPost_kif, kNext_kif, kFin_kif, kReg_kif, kOps_kif, kO_kif, kG_kif, kDrw_kif, kW_kif, kOpsW_kif, kRet_kif, map_kif, bind_kif, kWant_t, kWant_f, kWant_kif, ↓execI_pick, kPick_bool, kPick_kif, ↓execI_iadr, kIadr_sl, ↓execI_idxs, kIdxs_str, ↓execI_len, ↓rdB_ld, kRd_ptr, kRd_tptr, kRd_tup, kRd_kif, kOpsW_bs, gt0, st0, gt1, st1, gt2, st2, gt3, st3, gt4, st4, gt5, st5, gt6, st6, gt7, st7, gt8, st8, -kWant_bool, -Int.not_le, -Int.not_lt, -decide_eq_true_eq, -decide_eq_false_iff_not, -List.getD_eq_getElem?_getD, -List.set_cons_succ, -List.set_cons_zero, -Bool.and_eq_true, -Bool.or_eq_true, -Bool.not_eq_eq_eq_not, -Bool.or_eq_false_iff, -Bool.and_eq_false_imp, -Bool.not_eq_true, -Bool.not_eq_false])]
  simp (contextual := true) (maxSteps := 10000000) (implicitDefEqProofs := false) [T23, c23_b0, l1, l2, gn.all, RtH_some, kCond_kc, kc_kif, ↓kif_tr, ↓kif_fl, kif_tr, kif_fl, kif_same, ↓kif_not, ↓kif_or, ↓kifg_tr, ↓kifg_fl, ↓kifg_not, ↓kifg_or, ↓kifg_and, kifg_kif, kifB_t, kifB_f, kifB_ft, kifB_tt, kif_bool, kif_int, mergeL, mergeV, mergeS, mergeRs, kSeq_kif, kBlk_kif, kPost_kif, kNext_kif, kFin_kif, kReg_kif, kOps_kif, kO_kif, kG_kif, kDrw_kif, kW_kif, kOpsW_kif, kRet_kif, map_kif, bind_kif, kWant_t, kWant_f, kWant_kif, ↓execI_pick, kPick_bool, kPick_kif, ↓execI_iadr, kIadr_sl, ↓execI_idxs, kIdxs_str, ↓execI_len, ↓rdB_ld, kRd_ptr, kRd_tptr, kRd_tup, kRd_kif, kOpsW_bs, gt0, st0, gt1, st1, gt2, st2, gt3, st3, gt4, st4, gt5, st5, gt6, st6, gt7, st7, gt8, st8, -kWant_bool, -Int.not_le, -Int.not_lt, -decide_eq_true_eq, -decide_eq_false_iff_not, -List.getD_eq_getElem?_getD, -List.set_cons_succ, -List.set_cons_zero, -Bool.and_eq_true, -Bool.or_eq_true, -Bool.not_eq_eq_eq_not, -Bool.or_eq_false_iff, -Bool.and_eq_false_imp, -Bool.not_eq_true, -Bool.not_eq_false]
end Go.AM.Ytdgineiemjplhaa

set_option linter.unusedVariables false
set_option linter.unusedSimpArgs false
namespace Go.AM.Ytdgineiemjplhaa
open Go Go.AM
set_option maxRecDepth 100000
set_option maxHeartbeats 0
attribute [local congr] kif_congr
theorem callV_ref {call : CallT} {H : Heap} {f : FuncId} {args : List V} (h : pu f = false) : callV call pu H f args = (renL (place (reach H 50 [] (refsL args))) args).bind fun as' => (pickH H (place (reach H 50 [] (refsL args))) (reach H 50 [] (refsL args))).bind fun Hs => (call f as' Hs).bind fun r =>
    (r.1.ren (backG (reach H 50 [] (refsL args)) H.length)).bind fun v' => (renH (backG (reach H 50 [] (refsL args)) H.length) r.2.1).map fun Hn =>
      (v', if r.2.2 then .upd (putBack Hn 0 (reach H 50 [] (refsL args)) H ++ Hn.drop (reach H 50 [] (refsL args)).length) (reach H 50 [] (refsL args)) else .new (Hn.drop (reach H 50 [] (refsL args)).length)) := by
  unfold callV
  rw [if_neg (by rw [h]; decide)]
def mtB (b : Bd) (x : Nd) : Bool := decide (x.rs = b.rs) && decide (b.ii ≤ x.bu)
theorem tot25 (k : Nat) (b : Bd) (hb : b.Ok) (rs bu : Int) : callF tbl pu (k + 1) 25 [.agg [.int .i64 rs, .int .i64 bu], .ptr 0 1 0 0] [bxB b] = some (.bool (mtB b ⟨rs, bu⟩), [bxB b], false) := by
  rw [callF_eq tbl25, c25]
  have gc := Sl.ls hb
  unfold mtB bxB
  cases h1 : decide (rs = b.rs) <;> cases h2 : decide (b.ii ≤ bu) <;> simp (contextual := true) (maxSteps := 10000000) (implicitDefEqProofs := false) [h1, h2, gc.all, Bool.and_true, Bool.and_false, Bool.true_and, Bool.false_and, kCond_kc, kc_kif, ↓kif_tr, ↓kif_fl, kif_tr, kif_fl, kif_same, ↓kif_not, ↓kif_or, ↓kifg_tr, ↓kifg_fl, ↓kifg_not, ↓kifg_or, ↓kifg_and, kifg_kif, kifB_t, kifB_f, kifB_ft, kifB_tt, kif_bool, kif_int, mergeL, mergeV, mergeS, mergeRs, kSeq_kif, kBlk_kif, kPost_kif, kNext_kif, kFin_kif, kReg_kif, kOps_kif, kO_kif, kG_kif, kDrw_kif, kW_kif, kOpsW_kif, kRet_kif, map_kif, bind_kif, kWant_t, kWant_f, kWant_kif, ↓execI_pick, kPick_bool, kPick_kif, ↓execI_iadr, kIadr_sl, ↓execI_idxs, kIdxs_str, ↓execI_len, ↓rdB_ld, kRd_ptr, kRd_tptr, kRd_tup, kRd_kif, kOpsW_bs, gt0, st0, gt1, st1, gt2, st2, gt3, st3, gt4, st4, gt5, st5, gt6, st6, gt7, st7, gt8, st8, -kWant_bool, -Int.not_le, -Int.not_lt, -decide_eq_true_eq, -decide_eq_false_iff_not, -List.getD_eq_getElem?_getD, -List.set_cons_succ, -List.set_cons_zero, -Bool.and_eq_true, -Bool.or_eq_true, -Bool.not_eq_eq_eq_not, -Bool.or_eq_false_iff, -Bool.and_eq_false_imp, -Bool.not_eq_true, -Bool.not_eq_false]
theorem call25 (k : Nat) (b : Bd) (hb : b.Ok) (rs bu : Int) : callV (callF tbl pu (k + 1)) pu [bxB b] 25 [.agg [.int .i64 rs, .int .i64 bu], .ptr 0 1 0 0] = some (.bool (mtB b ⟨rs, bu⟩), .new []) := by
  rw [callV_ref (by decide)]
  have gc := Sl.ls hb
  have e : reach [bxB b] 50 [] (refsL [.agg [.int .i64 rs, .int .i64 bu], .ptr 0 1 0 0]) = [0] := by
    unfold bxB
    simp [refsL, V.refs, reach, gc.all]
  rw [e]
  have q := tot25 k b hb rs bu
  have p0 : place [0] 0 = some 0 := rfl
  unfold bxB at *
  simp [renL, V.ren, p0, -place_cons, pickH, Blk.ren, q, backG, renH, gc.all]
def T35 (vn : V) (nn j : Nat) (b : Bd) : St := ⟨[vn, .fn 25 [.ptr 0 1 0 0], .undef, .undef, .undef, .undef, .undef, .int .i64 nn, .int .i64 j, .undef, .undef, .undef, .undef, .undef, .undef, .undef, .undef, .undef, .undef], [bxB b], false⟩
def R35 (f : Fl) (b : Bd) (r : Ex × St) : Prop := (∃ j, j < f.N.length ∧ mtB b (ndAt f.N j) = true) ∧ ∃ i : Nat, r.1 = .ret ∧ r.2.fr.getD 4 .undef = .int .i64 i ∧ r.2.H = [bxB b] ∧ r.2.d = false
theorem R35_ret {f : Fl} {b : Bd} {s : St} : R35 f b (.ret, s) = ((∃ j, j < f.N.length ∧ mtB b (ndAt f.N j) = true) ∧ ∃ i : Nat, s.fr.getD 4 .undef = .int .i64 i ∧ s.H = [bxB b] ∧ s.d = false) := by simp [R35]
theorem g35 (K : Nat) (f : Fl) (hf : f.Ok) (b : Bd) (hb : b.Ok) (hN : f.N.length ≤ 20) (j : Nat) (hj : j < f.N.length) :
    Go1 (tidy [0, 1, 7, 8] 1) (fun t => t = T35 f.vn f.N.length (j + 1) b ∧ mtB b (ndAt f.N j) = false) (R35 f b) (execC (callF tbl pu (K + 1)) pu 1 (K + 1) c35_b0 (T35 f.vn f.N.length j b)) := by
  have gn := Sl.ls hf.n
  have gc := Sl.ls hb
  have hln := lenN hf
  have h1 : IntKind.i64.wrap ((j : Int) + 1) = (j : Int) + 1 := wrap64 (by omega) (by omega)
  have h3 : decide (f.N.length ≤ j) = false := by simp; omega
  have h4 : decide (j < f.N.length) = true := by simp; omega
  have hr := rowN hf hj
  have q := call25 K b hb (ndAt f.N j).rs (ndAt f.N j).bu
  have hex : mtB b (ndAt f.N j) = true → ∃ j, j < f.N.length ∧ mtB b (ndAt f.N j) = true := fun h => ⟨j, hj, h⟩
  unfold R35
  generalize (∃ j, j < f.N.length ∧ mtB b (ndAt f.N j) = true) = PP at *
  have he : mtB b (ndAt f.N j) = mtB b ⟨(ndAt f.N j).rs, (ndAt f.N j).bu⟩ := rfl
  rw [← he] at q
  have hbr : ∀ g, (bxB b).ren g = some (bxB b) := fun g => by unfold bxB; simp [Blk.ren, renL, gc.all]
  have hbe : (bxB b).es = [[.int .i64 b.kd, .int .i64 b.ii, b.vc, .int .i64 b.rs]] := rfl
  have hbb : (bxB b).box = true := rfl
  cases hm : mtB b (ndAt f.N j) with
  | false =>
    rw [hm] at q
    unfold c35_b0 T35
    simp (contextual := true) (maxSteps := 10000000) (implicitDefEqProofs := false) [hln, h1, h3, h4, hr, q, hbr, hbe, hbb, gn.all, gc.all, kIadr_LS gn, Go1_kif, Go1_ret, Go1_normal, Go1_exit, RtF_ret, ex_eq, ex_eq2, tidy, kCond_kc, kc_kif, ↓kif_tr, ↓kif_fl, kif_tr, kif_fl, kif_same, ↓kif_not, ↓kif_or, ↓kifg_tr, ↓kifg_fl, ↓kifg_not, ↓kifg_or, ↓kifg_and, kifg_kif, kifB_t, kifB_f, kifB_ft, kifB_tt, kif_bool, kif_int, mergeL, mergeV, mergeS, mergeRs, kSeq_kif, kBlk_kif, kPost_kif, kNext_kif, kFin_kif, kReg_kif, kOps_kif, kO_kif, kG_kif, kDrw_kif, kW_kif, kOpsW_kif, kRet_kif, map_kif, bind_kif, kWant_t, kWant_f, kWant_kif, ↓execI_pick, kPick_bool, kPick_kif, ↓execI_iadr, kIadr_sl, ↓execI_idxs, kIdxs_str, ↓execI_len, ↓rdB_ld, kRd_ptr, kRd_tptr, kRd_tup, kRd_kif, kOpsW_bs, gt0, st0, gt1, st1, gt2, st2, gt3, st3, gt4, st4, gt5, st5, gt6, st6, gt7, st7, gt8, st8, -kWant_bool, -Int.not_le, -Int.not_lt, -decide_eq_true_eq, -decide_eq_false_iff_not, -List.getD_eq_getElem?_getD, -List.set_cons_succ, -List.set_cons_zero, -Bool.and_eq_true, -Bool.or_eq_true, -Bool.not_eq_eq_eq_not, -Bool.or_eq_false_iff, -Bool.and_eq_false_imp, -Bool.not_eq_true, -Bool.not_eq_false]
  | true =>
    rw [hm] at q
    have hp := hex hm
    unfold c35_b0 T35
    simp (contextual := true) (maxSteps := 10000000) (implicitDefEqProofs := false) [hln, h1, h3, h4, hr, q, hbr, hbe, hbb, gn.all, gc.all, kIadr_LS gn, Go1_kif, Go1_ret, Go1_normal, Go1_exit, RtF_ret, ex_eq, ex_eq2, tidy, kCond_kc, kc_kif, ↓kif_tr, ↓kif_fl, kif_tr, kif_fl, kif_same, ↓kif_not, ↓kif_or, ↓kifg_tr, ↓kifg_fl, ↓kifg_not, ↓kifg_or, ↓kifg_and, kifg_kif, kifB_t, kifB_f, kifB_ft, kifB_tt, kif_bool, kif_int, mergeL, mergeV, mergeS, mergeRs, kSeq_kif, kBlk_kif, kPost_kif, kNext_kif, kFin_kif, kReg_kif, kOps_kif, kO_kif, kG_kif, kDrw_kif, kW_kif, kOpsW_kif, kRet_kif, map_kif, bind_kif, kWant_t, kWant_f, kWant_kif, ↓execI_pick, kPick_bool, kPick_kif, ↓execI_iadr, kIadr_sl, ↓execI_idxs, kIdxs_str, ↓execI_len, ↓rdB_ld, kRd_ptr, kRd_tptr, kRd_tup, kRd_kif, kOpsW_bs, gt0, st0, gt1, st1, gt2, st2, gt3, st3, gt4, st4, gt5, st5, gt6, st6, gt7, st7, gt8, st8, -kWant_bool, -Int.not_le, -Int.not_lt, -decide_eq_true_eq, -decide_eq_false_iff_not, -List.getD_eq_getElem?_getD, -List.set_cons_succ, -List.set_cons_zero, -Bool.and_eq_true, -Bool.or_eq_true, -Bool.not_eq_eq_eq_not, -Bool.or_eq_false_iff, -Bool.and_eq_false_imp, -Bool.not_eq_true, -Bool.not_eq_false]
    exact ⟨hp, j, rfl⟩
theorem x35 (call : CallT) (K : Nat) (vn : V) (nn : Nat) (b : Bd) : Nn (execC call pu 1 K c35_b0 (T35 vn nn nn b)) := by
  unfold c35_b0 T35
  simp (contextual := true) (maxSteps := 10000000) (implicitDefEqProofs := false) [Nn_exit, kCond_kc, kc_kif, ↓kif_tr, ↓kif_fl, kif_tr, kif_fl, kif_same, ↓kif_not, ↓kif_or, ↓kifg_tr, ↓kifg_fl, ↓kifg_not, ↓kifg_or, ↓kifg_and, kifg_kif, kifB_t, kifB_f, kifB_ft, kifB_tt, kif_bool, kif_int, mergeL, mergeV, mergeS, mergeRs, kSeq_kif, kBlk_kif, kPost_kif, kNext_kif, kFin_kif, kReg_kif, kOps_kif, kO_kif, kG_kif, kDrw_kif, kW_kif, kOpsW_kif, kRet_kif, map_kif, bind_kif, kWant_t, kWant_f, kWant_kif, ↓execI_pick, kPick_bool, kPick_kif, ↓execI_iadr, kIadr_sl, ↓execI_idxs, kIdxs_str, ↓execI_len, ↓rdB_ld, kRd_ptr, kRd_tptr, kRd_tup, kRd_kif, kOpsW_bs, gt0, st0, gt1, st1, gt2, st2, gt3, st3, gt4, st4, gt5, st5, gt6, st6, gt7, st7, gt8, st8, -kWant_bool, -Int.not_le, -Int.not_lt, -decide_eq_true_eq, -decide_eq_false_iff_not, -List.getD_eq_getElem?_getD, -List.set_cons_succ, -List.set_cons_zero, -Bool.and_eq_true, -Bool.or_eq_true, -Bool.not_eq_eq_eq_not, -Bool.or_eq_false_iff, -Bool.and_eq_false_imp, -Bool.not_eq_true, -Bool.not_eq_false]
theorem tot35 (K : Nat) (f : Fl) (hf : f.Ok) (b : Bd) (hb : b.Ok) (hN : f.N.length ≤ 20) (hK : 1000 ≤ K) :
    ∃ i : Int, callF tbl pu (K + 2) 35 [f.vn, .fn 25 [.ptr 0 1 0 0]] [bxB b] = some (.int .i64 i, [bxB b], false) ∧ (0 ≤ i ↔ ∃ j, j < f.N.length ∧ mtB b (ndAt f.N j) = true) := by
  rw [callF_eq tbl35, c35]
  have gn := Sl.ls hf.n
  have gc := Sl.ls hb
  have hln := lenN hf
  have M1 : f.N.length < K + 1 := by omega
  have hbr : ∀ g, (bxB b).ren g = some (bxB b) := fun g => by unfold bxB; simp [Blk.ren, renL, gc.all]
  have hbe : (bxB b).es = [[.int .i64 b.kd, .int .i64 b.ii, b.vc, .int .i64 b.rs]] := rfl
  have hbb : (bxB b).box = true := rfl
  rcases loop_ok (T := fun j => T35 f.vn f.N.length j b) (fun j hj => g35 K f hf b hb hN j hj) (x35 (callF tbl pu (K + 1)) (K + 1) f.vn f.N.length b) with ⟨h0, hl⟩ | ⟨r, ⟨hex, i, r1, r2, r3, r4⟩, hl⟩
  · refine ⟨-1, ?_, ⟨fun h => by omega, fun ⟨j, hj, h⟩ => by rw [h0 j hj] at h; cases h⟩⟩
    simp (contextual := true) (maxSteps := 10000000) (implicitDefEqProofs := false) [hln, gn.all, gc.all, execC_loop, -kIter_succ, kCond_kc, kc_kif, ↓kif_tr, ↓kif_fl, kif_tr, kif_fl, kif_same, ↓kif_not, ↓kif_or, ↓kifg_tr, ↓kifg_fl, ↓kifg_not, ↓kifg_or, ↓kifg_and, kifg_kif, kifB_t, kifB_f, kifB_ft, kifB_tt, kif_bool, kif_int, mergeL, mergeV, mergeS, mergeRs, kSeq_kif, kBlk_kif, kPost_kif, kNext_kif, kFin_kif, kReg_kif, kOps_kif, kO_kif, kG_kif, kDrw_kif, kW_kif, kOpsW_kif, kRet_kif, map_kif, bind_kif, kWant_t, kWant_f, kWant_kif, ↓execI_pick, kPick_bool, kPick_kif, ↓execI_iadr, kIadr_sl, ↓execI_idxs, kIdxs_str, ↓execI_len, ↓rdB_ld, kRd_ptr, kRd_tptr, kRd_tup, kRd_kif, kOpsW_bs, gt0, st0, gt1, st1, gt2, st2, gt3, st3, gt4, st4, gt5, st5, gt6, st6, gt7, st7, gt8, st8, -kWant_bool, -Int.not_le, -Int.not_lt, -decide_eq_true_eq, -decide_eq_false_iff_not, -List.getD_eq_getElem?_getD, -List.set_cons_succ, -List.set_cons_zero, -Bool.and_eq_true, -Bool.or_eq_true, -Bool.not_eq_eq_eq_not, -Bool.or_eq_false_iff, -Bool.and_eq_false_imp, -Bool.not_eq_true, -Bool.not_eq_false]
    rw [hl _ _ M1 (by simp (contextual := true) (maxSteps := 10000000) (implicitDefEqProofs := false) [T35, tidy, hbr, hbe, hbb, gn.all, gc.all, kCond_kc, kc_kif, ↓kif_tr, ↓kif_fl, kif_tr, kif_fl, kif_same, ↓kif_not, ↓kif_or, ↓kifg_tr, ↓kifg_fl, ↓kifg_not, ↓kifg_or, ↓kifg_and, kifg_kif, kifB_t, kifB_f, kifB_ft, kifB_tt, kif_bool, kif_int, mergeL, mergeV, mergeS, mergeRs, kSeq_kif, kBlk_kif, kPost_kif, kNext_kif, kFin_kif, kReg_kif, kOps_kif, kO_kif, kG_kif, kDrw_kif, kW_kif, kOpsW_kif, kRet_kif, map_kif, bind_kif, kWant_t, kWant_f, kWant_kif, ↓execI_pick, kPick_bool, kPick_kif, ↓execI_iadr, kIadr_sl, ↓execI_idxs, kIdxs_str, ↓execI_len, ↓rdB_ld, kRd_ptr, kRd_tptr, kRd_tup, kRd_kif, kOpsW_bs, gt0, st0, gt1, st1, gt2, st2, gt3, st3, gt4, st4, gt5, st5, gt6, st6, gt7, st7, gt8, st8, -kWant_bool, -Int.not_le, -Int.not_lt, -decide_eq_true_eq, -decide_eq_false_iff_not, -List.getD_eq_getElem?_getD, -List.set_cons_succ, -List.set_cons_zero, -Bool.and_eq_true, -Bool.or_eq_true, -Bool.not_eq_eq_eq_not, -Bool.or_eq_false_iff, -Bool.and_eq_false_imp, -Bool.not_eq_true, -Bool.not_eq_false])]
    simp (contextual := true) (maxSteps := 10000000) (implicitDefEqProofs := false) [T35, c35_b0, hbr, hbe, hbb, gn.all, gc.all, kCond_kc, kc_kif, ↓kif_tr, ↓kif_fl, kif_tr, kif_fl, kif_same, ↓kif_not, ↓kif_or, ↓kifg_tr, ↓kifg_fl, ↓kifg_not, ↓kifg_or, ↓kifg_and, kifg_kif, kifB_t, kifB_f, kifB_ft, kifB_tt, kif_bool, kif_int, mergeL, mergeV, mergeS, mergeRs, kSeq_kif, kBlk_kif, kPost_kif, kNext_kif, kFin_kif, kReg_kif, kOps_kif, kO_kif, kG_kif, kDrw_kif, kW_kif, kOpsW_kif, kRet_kif, map_kif, bind_kif, kWant_t, kWant_f, kWant_kif, ↓execI_pick, kPick_bool, kPick_kif, ↓execI_iadr, kIadr_sl, ↓execI_idxs, kIdxs_str, ↓execI_len, ↓rdB_ld, kRd_ptr, kRd_tptr, kRd_tup, kRd_kif, kOpsW_bs, gt0, st0, gt1, st1, gt2, st2, gt3, st3, gt4, st4, gt5, st5, gt6, st6, gt7, st7, gt8, st8, -kWant_bool, -Int.not_le, -Int.not_lt, -decide_eq_true_eq, -decide_eq_false_iff_not, -List.getD_eq_getElem?_getD, -List.set_cons_succ, -List.set_cons_zero, -Bool.and_eq_true, -Bool.or_eq_true, -Bool.not_eq_eq_eq_not, -Bool.or_eq_false_iff, -Bool.and_eq_false_imp, -Bool.not_eq_true, -Bool.not_eq_false]
  · refine ⟨i, ?_, ⟨fun _ => hex, fun _ => by omega⟩⟩
    obtain ⟨e, fr, H, d⟩ := r
    dsimp only at r1 r2 r3 r4
    subst r1 r3 r4
    simp (contextual := true) (maxSteps := 10000000) (implicitDefEqProofs := false) [hln, gn.all, gc.all, execC_loop, -kIter_succ, kCond_kc, kc_kif, ↓kif_tr, ↓kif_fl, kif_tr, kif_fl, kif_same, ↓kif_not, ↓kif_or, ↓kifg_tr, ↓kifg_fl, ↓kifg_not, ↓kifg_or, ↓kifg_and, kifg_kif, kifB_t, kifB_f, kifB_ft, kifB_tt, kif_bool, kif_int, mergeL, mergeV, mergeS, mergeRs, kSeq_kif, kBlk_kif, kPost_kif, kNext_kif, kFin_kif, kReg_kif, kOps_kif, kO_kif, kG_kif, kDrw_kif, kW_kif, kOpsW_kif, kRet_kif, map_kif, bind_kif, kWant_t, kWant_f, kWant_kif, ↓execI_pick, kPick_bool, kPick_kif, ↓execI_iadr, kIadr_sl, ↓execI_idxs, kIdxs_str, ↓execI_len, ↓rdB_ld, kRd_ptr, kRd_tptr, kRd_tup, kRd_kif, kOpsW_bs, gt0, st0, gt1, st1, gt2, st2, gt3, st3, gt4, st4, gt5, st5, gt6, st6, gt7, st7, gt8, st8, -kWant_bool, -Int.not_le, -Int.not_lt, -decide_eq_true_eq, -decide_eq_false_iff_not, -List.getD_eq_getElem?_getD, -List.set_cons_succ, -List.set_cons_zero, -Bool.and_eq_true, -Bool.or_eq_true, -Bool.not_eq_eq_eq_not, -Bool.or_eq_false_iff, -Bool.and_eq_false_imp, -Bool.not_eq_true, -Bool.not_eq_false]
    rw [hl _ _ M1 (by simp (contextual := true) (maxSteps := 10000000) (implicitDefEqProofs := false) [T35, tidy, hbr, hbe, hbb, gn.all, gc.all, kCond_kc, kc_kif, ↓kif_tr, ↓kif_fl, kif_tr, kif_fl, kif_same, ↓kif_not, ↓kif_or, ↓kifg_tr, ↓kifg_fl, ↓kifg_not, ↓kifg_or, ↓kifg_and, kifg_kif, kifB_t, kifB_f, kifB_ft, kifB_tt, kif_bool, kif_int, mergeL, mergeV, mergeS, mergeRs, kSeq_kif, kBlk_kif, kPost_kif, kNext_kif, kFin_kif, kReg_kif, kOps_kif, kO_kif, kG_kif, kDrw_kif, kW_kif, kOpsW_kif, kRet_kif, map_kif, bind_kif, kWant_t, kWant_f, kWant_kif, ↓execI_pick, kPick_bool, kPick_kif, ↓execI_iadr, kIadr_sl, ↓execI_idxs, kIdxs_str, ↓execI_len, ↓rdB_ld, kRd_ptr, kRd_tptr, kRd_tup, kRd_kif, kOpsW_bs, gt0, st0, gt1, st1, gt2, st2, gt3, st3, gt4, st4, gt5, st5, gt6, st6, gt7, st7, gt8, st8, -kWant_bool, -Int.not_le, -Int.not_lt, -decide_eq_true_eq, -decide_eq_false_iff_not, -List.getD_eq_getElem?_getD, -List.set_cons_succ, -List.set_cons_zero, -Bool.and_eq_true, -Bool.or_eq_true, -Bool.not_eq_eq_eq_not, -Bool.or_eq_false_iff, -Bool.and_eq_false_imp, -Bool.not_eq_true, -Bool.not_eq_false])]
    simp (contextual := true) (maxSteps := 10000000) (implicitDefEqProofs := false) [r2, hbr, hbe, hbb, gc.all, kCond_kc, kc_kif, ↓kif_tr, ↓kif_fl, kif_tr, kif_fl, kif_same, ↓kif_not, ↓kif_or, ↓kifg_tr, ↓kifg_fl, ↓kifg_not, ↓kifg_or, ↓kifg_and, kifg_kif, kifB_t, kifB_f, kifB_ft, kifB_tt, kif_bool, kif_int, mergeL, mergeV, mergeS, mergeRs, kSeq_kif, kBlk_kif, kPost_kif, kNext_kif, kFin_kif, kReg_kif, kOps_kif, kO_kif, kG_kif, kDrw_kif, kW_kif, kOpsW_kif, kRet_kif, map_kif, bind_kif, kWant_t, kWant_f, kWant_kif, ↓execI_pick, kPick_bool, kPick_kif, ↓execI_iadr, kIadr_sl, ↓execI_idxs, kIdxs_str, ↓execI_len, ↓rdB_ld, kRd_ptr, kRd_tptr, kRd_tup, kRd_kif, kOpsW_bs, gt0, st0, gt1, st1, gt2, st2, gt3, st3, gt4, st4, gt5, st5, gt6, st6, gt7, st7, gt8, st8, -kWant_bool, -Int.not_le, -Int.not_lt, -decide_eq_true_eq, -decide_eq_false_iff_not, -List.getD_eq_getElem?_getD, -List.set_cons_succ, -List.set_cons_zero, -Bool.and_eq_true, -Bool.or_eq_true, -Bool.not_eq_eq_eq_not, -Bool.or_eq_false_iff, -Bool.and_eq_false_imp, -Bool.not_eq_true, -Bool.not_eq_false]
def anyB (f : Fl) (b : Bd) : Prop := ∃ j, j < f.N.length ∧ mtB b (ndAt f.N j) = true
theorem call35 (K : Nat) (f : Fl) (hf : f.Ok) (b : Bd) (hb : b.Ok) (hN : f.N.length ≤ 20) (hK : 1000 ≤ K) : ∃ i : Int, callV (callF tbl pu (K + 2)) pu [bxB b] 35 [f.vn, .fn 25 [.ptr 0 1 0 0]] = some (.int .i64 i, .new []) ∧ (0 ≤ i ↔ anyB f b) := by
  obtain ⟨i, q, hi⟩ := tot35 K f hf b hb hN hK
  refine ⟨i, ?_, hi⟩
  rw [callV_ref (by decide)]
  have gn := Sl.ls hf.n
  have gc := Sl.ls hb
  have e : reach [bxB b] 50 [] (refsL [f.vn, .fn 25 [.ptr 0 1 0 0]]) = [0] := by
    unfold bxB
    simp [refsL, V.refs, reach, gc.all, gn.all]
  rw [e]
  have p0 : place [0] 0 = some 0 := rfl
  unfold bxB at *
  simp [renL, V.ren, p0, -place_cons, pickH, Blk.ren, q, backG, renH, gc.all, gn.all]
theorem tot24 (K : Nat) (f : Fl) (hf : f.Ok) (b : Bd) (hb : b.Ok) (hN : f.N.length ≤ 20) (hK : 1000 ≤ K) : ∃ c, callF tbl pu (K + 3) 24 [f.vn, .fn 25 [.ptr 0 1 0 0]] [bxB b] = some (.bool c, [bxB b], false) ∧ (c = true ↔ anyB f b) := by
  obtain ⟨i, q, hi⟩ := call35 K f hf b hb hN hK
  refine ⟨decide (0 ≤ i), ?_, by rw [decide_eq_true_iff]; exact hi⟩
  rw [callF_eq tbl24, c24]
  have gn := Sl.ls hf.n
  have gc := Sl.ls hb
  have hbr : ∀ g, (bxB b).ren g = some (bxB b) := fun g => by unfold bxB; simp [Blk.ren, renL, gc.all]
  have hbe : (bxB b).es = [[.int .i64 b.kd, .int .i64 b.ii, b.vc, .int .i64 b.rs]] := rfl
  have hbb : (bxB b).box = true := rfl
  simp (contextual := true) (maxSteps := 10000000) (implicitDefEqProofs := false) [q, hbr, hbe, hbb, gn.all, gc.all, kCond_kc, kc_kif, ↓kif_tr, ↓kif_fl, kif_tr, kif_fl, kif_same, ↓kif_not, ↓kif_or, ↓kifg_tr, ↓kifg_fl, ↓kifg_not, ↓kifg_or, ↓kifg_and, kifg_kif, kifB_t, kifB_f, kifB_ft, kifB_tt, kif_bool, kif_int, mergeL, mergeV, mergeS, mergeRs, kSeq_kif, kBlk_kif, kPost_kif, kNext_kif, kFin_kif, kReg_kif, kOps_kif, kO_kif, kG_kif, kDrw_kif, kW_kif, kOpsW_kif, kRet_kif, map_kif, bind_kif, kWant_t, kWant_f, kWant_kif, ↓execI_pick, kPick_bool, kPick_kif, ↓execI_iadr, kIadr_sl, ↓execI_idxs, kIdxs_str, ↓execI_len, ↓rdB_ld, kRd_ptr, kRd_tptr, kRd_tup, kRd_kif, kOpsW_bs, gt0, st0, gt1, st1, gt2, st2, gt3, st3, gt4, st4, gt5, st5, gt6, st6, gt7, st7, gt8, st8, -kWant_bool, -Int.not_le, -Int.not_lt, -decide_eq_true_eq, -decide_eq_false_iff_not, -List.getD_eq_getElem?_getD, -List.set_cons_succ, -List.set_cons_zero, -Bool.and_eq_true, -Bool.or_eq_true, -Bool.not_eq_eq_eq_not, -Bool.or_eq_false_iff, -Bool.and_eq_false_imp, -Bool.not_eq_true, -Bool.not_eq_false]
theorem call24 (K : Nat) (f : Fl) (hf : f.Ok) (b : Bd) (hb : b.Ok) (hN : f.N.length ≤ 20) (hK : 1000 ≤ K) (B : Blk) : ∃ c, callV (callF tbl pu (K + 3)) pu [B, bxB b] 24 [f.vn, .fn 25 [.ptr 1 1 0 0]] = some (.bool c, .new []) ∧ (c = true ↔ anyB f b) := by
  obtain ⟨c, q, hc⟩ := tot24 K f hf b hb hN hK
  refine ⟨c, ?_, hc⟩
  rw [callV_ref (by decide)]
  have gn := Sl.ls hf.n
  have gc := Sl.ls hb
  have e : reach [B, bxB b] 50 [] (refsL [f.vn, .fn 25 [.ptr 1 1 0 0]]) = [1] := by
    unfold bxB
    simp [refsL, V.refs, reach, gc.all, gn.all]
  rw [e]
  have p0 : place [1] 1 = some 0 := rfl
  unfold bxB at *
  simp [renL, V.ren, p0, -place_cons, pickH, Blk.ren, q, backG, renH, gc.all, gn.all]
/-! What an accepted bound is. -/
def thereP (f : Fl) (b : Bd) : Prop := 0 ≤ b.rs ∧ b.rs < f.R.length
def cntP (f : Fl) (b : Bd) : Prop := (b.ii - 1) * (rsAt f.R b.rs.toNat).ct < sumN f.N b.rs f.N.length
def AccP (f : Fl) (b : Bd) : Prop := 1 ≤ b.ii ∧ b.ii ≤ 256 ∧ ((b.kd = 1 ∧ b.ii = 1) ∨ (b.kd = 2 ∧ 2 ≤ b.ii ∧ PosP f.A b.C (b.ii - 1)) ∨ (b.kd = 3 ∧ thereP f b ∧ cntP f b) ∨ (b.kd = 4 ∧ thereP f b ∧ anyB f b))
theorem lon_ge {N : List Nd} {r ii : Int} (h1 : 1 ≤ ii) : ∀ n, n ≤ N.length → (ii ≤ lonN N r n ↔ ∃ j, j < n ∧ (ndAt N j).rs = r ∧ ii ≤ (ndAt N j).bu)
  | 0, _ => by
    simp [lonN]; omega
  | n + 1, hn => by
    have ih := lon_ge (N := N) (r := r) h1 n (by omega)
    have hx : N[n]? = some (ndAt N n) := by simp [ndAt, show n < N.length by omega]
    simp only [lonN, hx]
    constructor
    · intro h
      split at h
      · rename_i hr
        by_cases h2 : ii ≤ lonN N r n
        · obtain ⟨j, a, b⟩ := ih.1 h2
          exact ⟨j, by omega, b⟩
        · refine ⟨n, by omega, hr, ?_⟩
          unfold imax at h
          split at h <;> omega
      · obtain ⟨j, a, b⟩ := ih.1 h
        exact ⟨j, by omega, b⟩
    · rintro ⟨j, a, b, c⟩
      by_cases hj : j = n
      · subst hj
        rw [if_pos b]
        unfold imax; split <;> omega
      · have := ih.2 ⟨j, by omega, b, c⟩
        split
        · unfold imax; split <;> omega
        · exact this
theorem any_lon {f : Fl} {b : Bd} (h1 : 1 ≤ b.ii) : anyB f b ↔ b.ii ≤ lonN f.N b.rs f.N.length := by
  rw [lon_ge h1 _ (Nat.le_refl _)]
  unfold anyB mtB
  simp
end Go.AM.Ytdgineiemjplhaa
