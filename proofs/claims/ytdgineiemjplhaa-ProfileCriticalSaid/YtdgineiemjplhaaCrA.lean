/- Flows by rows; the small functions of bounds, diffcons and the reference. -/
import Derived.Test.YtdgineiemjplhaaUsH
import Derived.Test.YtdgineiemjplhaaUsL
import Derived.Test.YtdgineiemjplhaaUsB
set_option linter.unusedVariables false
set_option linter.unusedSimpArgs false
namespace Go.AM.Ytdgineiemjplhaa
open Go Go.AM
set_option maxRecDepth 100000
set_option maxHeartbeats 0
attribute [local congr] kif_congr
theorem Sl.ls {z : Nat} {es : List (List V)} {v : V} (h : Sl z es v) : LS z v := by
  rcases h with ⟨h, -⟩ | h
  · exact .inl h
  · exact .inr ⟨es, h⟩
theorem Sl.row {z : Nat} {es : List (List V)} {v : V} (h : Sl z es v) {i : Nat} {e : List V} (he : es[i]? = some e) : row v i = e := by
  have := h.tsl (List.getElem?_eq_some_iff.1 he).1
  subst this
  simp [AM.row, rowsV, List.getD, he]
theorem rowA {f : Fl} (hf : f.Ok) {i : Nat} (h : i < f.A.length) : row f.va i = [.int .i64 (arcAt f.A i).fr, .int .i64 (arcAt f.A i).to, .int .i64 (arcAt f.A i).lat, .int .i64 (arcAt f.A i).di] := Sl.row hf.a (arcAt_get h)
theorem rowN {f : Fl} (hf : f.Ok) {i : Nat} (h : i < f.N.length) : row f.vn i = [.int .i64 (ndAt f.N i).rs, .int .i64 (ndAt f.N i).bu] := Sl.row hf.n (ndAt_get h)
def rsAt (R : List Rs) (v : Nat) : Rs := (R[v]?).getD ⟨0, 0, 0, 0⟩
theorem rowR {f : Fl} (hf : f.Ok) {i : Nat} (h : i < f.R.length) : row f.vr i = [.int .i64 (rsAt f.R i).kd, .int .i64 (rsAt f.R i).ix, .int .i64 (rsAt f.R i).wd, .int .i64 (rsAt f.R i).ct] := Sl.row hf.r (by simp [rsAt, h, Rs.vs])
theorem lenA {f : Fl} (hf : f.Ok) : lenV f.va = f.A.length := by rw [hf.a.len]; simp
theorem lenR {f : Fl} (hf : f.Ok) : lenV f.vr = f.R.length := by rw [hf.r.len]; simp
theorem lenN {f : Fl} (hf : f.Ok) : lenV f.vn = f.N.length := by rw [hf.n.len]; simp
/-- a bound -/
structure Bd where
  kd : Int
  ii : Int
  vc : V
  rs : Int
  C : List Int
def Bd.v (b : Bd) : V := .agg [.int .i64 b.kd, .int .i64 b.ii, b.vc, .int .i64 b.rs]
def Bd.Ok (b : Bd) : Prop := Sl 1 (b.C.map ivs) b.vc
def cyAt (C : List Int) (i : Nat) : Int := (C[i]?).getD 0
theorem rowC {b : Bd} (h : b.Ok) {i : Nat} (hi : i < b.C.length) : row b.vc i = [.int .i64 (cyAt b.C i)] := Sl.row h (by simp [cyAt, hi, ivs])
theorem lenC {b : Bd} (h : b.Ok) : lenV b.vc = b.C.length := by rw [Sl.len h]; simp
def bxB (b : Bd) : Blk := ⟨4, [[.int .i64 b.kd, .int .i64 b.ii, b.vc, .int .i64 b.rs]], 0, true, b.vc.flat⟩
/-! Small functions -/
def kNeg : V → Option (V × Eff)
  | .int k n => some (.int k (k.wrap (0 - n)), .new [])
  | _ => none
theorem kNeg_int {k : IntKind} {n : Int} : kNeg (.int k n) = some (.int k (k.wrap (0 - n)), .new []) := rfl
theorem execI_neg {call : CallT} {pure : FuncId → Bool} {fr : List V} {H : Heap} {x : Opd} : execI call pure fr H (.un .neg x) = kNeg (ev fr x) := by
  simp only [execI]
  cases ev fr x <;> rfl
theorem imax_l {a b : Int} (h : b ≤ a) : imax a b = a := by unfold imax; split <;> omega
theorem imax_r {a b : Int} (h : a ≤ b) : imax a b = b := by unfold imax; split <;> omega
theorem imin_l {a b : Int} (h : a ≤ b) : imin a b = a := by unfold imin; split <;> omega
theorem t52 (k : Nat) (n lo hi : Int) (h : lo ≤ n ∧ n ≤ hi) : callF tbl pu (k + 1) 52 [.int .i64 n, .int .i64 lo, .int .i64 hi] [] = some (.int .i64 n, [], false) := by
  rw [callF_eq tbl52, c52]
  have h1 : imax n lo = n := imax_l h.1
  have h2 : imin n hi = n := imin_l h.2
  simp (contextual := true) (maxSteps := 10000000) (implicitDefEqProofs := false) [h1, h2, kCond_kc, kc_kif, ↓kif_tr, ↓kif_fl, kif_tr, kif_fl, kif_same, ↓kif_not, ↓kif_or, ↓kifg_tr, ↓kifg_fl, ↓kifg_not, ↓kifg_or, ↓kifg_and, kifg_kif, kifB_t, kifB_f, kifB_ft, kifB_tt, kif_bool, kif_int, mergeL, mergeV, mergeS, mergeRs, kSeq_kif, kBlk_kif, kPost_kif, kNext_kif, kFin_kif, kReg_kif, kOps_kif, kO_kif, kG_kif, kDrw_kif, kW_kif, kOpsW_kif, kRet_kif, map_kif, bind_kif, kWant_t, kWant_f, kWant_kif, ↓execI_pick, kPick_bool, kPick_kif, ↓execI_iadr, kIadr_sl, ↓execI_idxs, kIdxs_str, ↓execI_len, ↓rdB_ld, kRd_ptr, kRd_tptr, kRd_tup, kRd_kif, kOpsW_bs, gt0, st0, gt1, st1, gt2, st2, gt3, st3, gt4, st4, gt5, st5, gt6, st6, gt7, st7, gt8, st8, -kWant_bool, -Int.not_le, -Int.not_lt, -decide_eq_true_eq, -decide_eq_false_iff_not, -List.getD_eq_getElem?_getD, -List.set_cons_succ, -List.set_cons_zero, -Bool.and_eq_true, -Bool.or_eq_true, -Bool.not_eq_eq_eq_not, -Bool.or_eq_false_iff, -Bool.and_eq_false_imp, -Bool.not_eq_true, -Bool.not_eq_false]
theorem t32 (k : Nat) (n : Int) (h : 0 ≤ n ∧ n ≤ 8192) : callF tbl pu (k + 2) 32 [.int .i64 n] [] = some (.int .i64 n, [], false) := by
  rw [callF_eq tbl32, c32]
  have q := t52 k n 0 8192 h
  simp (contextual := true) (maxSteps := 10000000) (implicitDefEqProofs := false) [callV_pu, q, kCond_kc, kc_kif, ↓kif_tr, ↓kif_fl, kif_tr, kif_fl, kif_same, ↓kif_not, ↓kif_or, ↓kifg_tr, ↓kifg_fl, ↓kifg_not, ↓kifg_or, ↓kifg_and, kifg_kif, kifB_t, kifB_f, kifB_ft, kifB_tt, kif_bool, kif_int, mergeL, mergeV, mergeS, mergeRs, kSeq_kif, kBlk_kif, kPost_kif, kNext_kif, kFin_kif, kReg_kif, kOps_kif, kO_kif, kG_kif, kDrw_kif, kW_kif, kOpsW_kif, kRet_kif, map_kif, bind_kif, kWant_t, kWant_f, kWant_kif, ↓execI_pick, kPick_bool, kPick_kif, ↓execI_iadr, kIadr_sl, ↓execI_idxs, kIdxs_str, ↓execI_len, ↓rdB_ld, kRd_ptr, kRd_tptr, kRd_tup, kRd_kif, kOpsW_bs, gt0, st0, gt1, st1, gt2, st2, gt3, st3, gt4, st4, gt5, st5, gt6, st6, gt7, st7, gt8, st8, -kWant_bool, -Int.not_le, -Int.not_lt, -decide_eq_true_eq, -decide_eq_false_iff_not, -List.getD_eq_getElem?_getD, -List.set_cons_succ, -List.set_cons_zero, -Bool.and_eq_true, -Bool.or_eq_true, -Bool.not_eq_eq_eq_not, -Bool.or_eq_false_iff, -Bool.and_eq_false_imp, -Bool.not_eq_true, -Bool.not_eq_false]
theorem t47 (k : Nat) (n : Int) (h : 0 ≤ n ∧ n ≤ 8192) : callF tbl pu (k + 1) 47 [.int .i64 n] [] = some (.int .i64 n, [], false) := by
  rw [callF_eq tbl47, c47]
  have h1 : imax n 0 = n := imax_l h.1
  have h2 : imin n 8192 = n := imin_l h.2
  simp (contextual := true) (maxSteps := 10000000) (implicitDefEqProofs := false) [h1, h2, kCond_kc, kc_kif, ↓kif_tr, ↓kif_fl, kif_tr, kif_fl, kif_same, ↓kif_not, ↓kif_or, ↓kifg_tr, ↓kifg_fl, ↓kifg_not, ↓kifg_or, ↓kifg_and, kifg_kif, kifB_t, kifB_f, kifB_ft, kifB_tt, kif_bool, kif_int, mergeL, mergeV, mergeS, mergeRs, kSeq_kif, kBlk_kif, kPost_kif, kNext_kif, kFin_kif, kReg_kif, kOps_kif, kO_kif, kG_kif, kDrw_kif, kW_kif, kOpsW_kif, kRet_kif, map_kif, bind_kif, kWant_t, kWant_f, kWant_kif, ↓execI_pick, kPick_bool, kPick_kif, ↓execI_iadr, kIadr_sl, ↓execI_idxs, kIdxs_str, ↓execI_len, ↓rdB_ld, kRd_ptr, kRd_tptr, kRd_tup, kRd_kif, kOpsW_bs, gt0, st0, gt1, st1, gt2, st2, gt3, st3, gt4, st4, gt5, st5, gt6, st6, gt7, st7, gt8, st8, -kWant_bool, -Int.not_le, -Int.not_lt, -decide_eq_true_eq, -decide_eq_false_iff_not, -List.getD_eq_getElem?_getD, -List.set_cons_succ, -List.set_cons_zero, -Bool.and_eq_true, -Bool.or_eq_true, -Bool.not_eq_eq_eq_not, -Bool.or_eq_false_iff, -Bool.and_eq_false_imp, -Bool.not_eq_true, -Bool.not_eq_false]
/-- an arc between nodes -/
def inN (n : Int) (a : Arc) : Prop := 0 ≤ a.fr ∧ a.fr < n ∧ 0 ≤ a.to ∧ a.to < n
theorem t33 (k : Nat) (n : Int) (a : Arc) (h : inN n a) : callF tbl pu (k + 1) 33 [.agg [.int .i64 a.fr, .int .i64 a.to, .int .i64 a.lat, .int .i64 a.di], .int .i64 n] [] = some (.bool true, [], false) := by
  rw [callF_eq tbl33, c33]
  obtain ⟨h1, h2, h3, h4⟩ := h
  have d1 : decide (0 ≤ a.fr) = true := by simp [h1]
  have d2 : decide (a.fr < n) = true := by simp [h2]
  have d3 : decide (0 ≤ a.to) = true := by simp [h3]
  have d4 : decide (a.to < n) = true := by simp [h4]
  simp (contextual := true) (maxSteps := 10000000) (implicitDefEqProofs := false) [d1, d2, d3, d4, kCond_kc, kc_kif, ↓kif_tr, ↓kif_fl, kif_tr, kif_fl, kif_same, ↓kif_not, ↓kif_or, ↓kifg_tr, ↓kifg_fl, ↓kifg_not, ↓kifg_or, ↓kifg_and, kifg_kif, kifB_t, kifB_f, kifB_ft, kifB_tt, kif_bool, kif_int, mergeL, mergeV, mergeS, mergeRs, kSeq_kif, kBlk_kif, kPost_kif, kNext_kif, kFin_kif, kReg_kif, kOps_kif, kO_kif, kG_kif, kDrw_kif, kW_kif, kOpsW_kif, kRet_kif, map_kif, bind_kif, kWant_t, kWant_f, kWant_kif, ↓execI_pick, kPick_bool, kPick_kif, ↓execI_iadr, kIadr_sl, ↓execI_idxs, kIdxs_str, ↓execI_len, ↓rdB_ld, kRd_ptr, kRd_tptr, kRd_tup, kRd_kif, kOpsW_bs, gt0, st0, gt1, st1, gt2, st2, gt3, st3, gt4, st4, gt5, st5, gt6, st6, gt7, st7, gt8, st8, -kWant_bool, -Int.not_le, -Int.not_lt, -decide_eq_true_eq, -decide_eq_false_iff_not, -List.getD_eq_getElem?_getD, -List.set_cons_succ, -List.set_cons_zero, -Bool.and_eq_true, -Bool.or_eq_true, -Bool.not_eq_eq_eq_not, -Bool.or_eq_false_iff, -Bool.and_eq_false_imp, -Bool.not_eq_true, -Bool.not_eq_false]
theorem t28 (k : Nat) (n : Int) (a : Arc) (h : inN n a) (hn : 0 ≤ n ∧ n ≤ 8192) : callF tbl pu (k + 2) 28 [.int .i64 n, .agg [.int .i64 a.fr, .int .i64 a.to, .int .i64 a.lat, .int .i64 a.di]] [] = some (.bool true, [], false) := by
  rw [callF_eq tbl28, c28]
  obtain ⟨h1, h2, h3, h4⟩ := h
  have d1 : decide (0 ≤ a.fr) = true := by simp [h1]
  have d2 : decide (a.fr < n) = true := by simp [h2]
  have d3 : decide (0 ≤ a.to) = true := by simp [h3]
  have d4 : decide (a.to < n) = true := by simp [h4]
  have q := t47 k n hn
  simp (contextual := true) (maxSteps := 10000000) (implicitDefEqProofs := false) [c28_r0, c28_a0, d1, d2, d3, d4, callV_pu, q, kCond_kc, kc_kif, ↓kif_tr, ↓kif_fl, kif_tr, kif_fl, kif_same, ↓kif_not, ↓kif_or, ↓kifg_tr, ↓kifg_fl, ↓kifg_not, ↓kifg_or, ↓kifg_and, kifg_kif, kifB_t, kifB_f, kifB_ft, kifB_tt, kif_bool, kif_int, mergeL, mergeV, mergeS, mergeRs, kSeq_kif, kBlk_kif, kPost_kif, kNext_kif, kFin_kif, kReg_kif, kOps_kif, kO_kif, kG_kif, kDrw_kif, kW_kif, kOpsW_kif, kRet_kif, map_kif, bind_kif, kWant_t, kWant_f, kWant_kif, ↓execI_pick, kPick_bool, kPick_kif, ↓execI_iadr, kIadr_sl, ↓execI_idxs, kIdxs_str, ↓execI_len, ↓rdB_ld, kRd_ptr, kRd_tptr, kRd_tup, kRd_kif, kOpsW_bs, gt0, st0, gt1, st1, gt2, st2, gt3, st3, gt4, st4, gt5, st5, gt6, st6, gt7, st7, gt8, st8, -kWant_bool, -Int.not_le, -Int.not_lt, -decide_eq_true_eq, -decide_eq_false_iff_not, -List.getD_eq_getElem?_getD, -List.set_cons_succ, -List.set_cons_zero, -Bool.and_eq_true, -Bool.or_eq_true, -Bool.not_eq_eq_eq_not, -Bool.or_eq_false_iff, -Bool.and_eq_false_imp, -Bool.not_eq_true, -Bool.not_eq_false]
def wtA (a : Arc) (ii : Int) : Int := a.lat - ii * a.di
def okW (a : Arc) : Prop := 0 ≤ a.lat ∧ a.lat ≤ 60 ∧ 0 ≤ a.di ∧ a.di ≤ 20
theorem wt_bd {a : Arc} {ii : Int} (h : okW a) (h2 : 0 ≤ ii ∧ ii ≤ 256) : 0 ≤ ii * a.di ∧ ii * a.di ≤ 5120 := by
  obtain ⟨-, -, h3, h4⟩ := h
  refine ⟨Int.mul_nonneg h2.1 h3, ?_⟩
  calc ii * a.di ≤ 256 * a.di := Int.mul_le_mul_of_nonneg_right h2.2 h3
    _ ≤ 256 * 20 := Int.mul_le_mul_of_nonneg_left h4 (by decide)
theorem t34 (k : Nat) (a : Arc) (ii : Int) (h : okW a) (h2 : 0 ≤ ii ∧ ii ≤ 256) : callF tbl pu (k + 2) 34 [.agg [.int .i64 a.fr, .int .i64 a.to, .int .i64 a.lat, .int .i64 a.di], .int .i64 ii] [] = some (.int .i64 (wtA a ii), [], false) := by
  rw [callF_eq tbl34, c34]
  have hb := wt_bd h h2
  obtain ⟨h3, h4, h5, h6⟩ := h
  have q1 := t52 k a.lat (-1048576) 1048576 ⟨by omega, by omega⟩
  have q2 := t52 k ii 0 256 h2
  have q3 := t52 k a.di (-1048576) 1048576 ⟨by omega, by omega⟩
  have w1 : IntKind.i64.wrap (ii * a.di) = ii * a.di := wrap64 (by omega) (by omega)
  have w2 : IntKind.i64.wrap (a.lat - ii * a.di) = a.lat - ii * a.di := wrap64 (by omega) (by omega)
  simp (contextual := true) (maxSteps := 10000000) (implicitDefEqProofs := false) [c34_r0, c34_a0, callV_pu, q1, q2, q3, w1, w2, wtA, kCond_kc, kc_kif, ↓kif_tr, ↓kif_fl, kif_tr, kif_fl, kif_same, ↓kif_not, ↓kif_or, ↓kifg_tr, ↓kifg_fl, ↓kifg_not, ↓kifg_or, ↓kifg_and, kifg_kif, kifB_t, kifB_f, kifB_ft, kifB_tt, kif_bool, kif_int, mergeL, mergeV, mergeS, mergeRs, kSeq_kif, kBlk_kif, kPost_kif, kNext_kif, kFin_kif, kReg_kif, kOps_kif, kO_kif, kG_kif, kDrw_kif, kW_kif, kOpsW_kif, kRet_kif, map_kif, bind_kif, kWant_t, kWant_f, kWant_kif, ↓execI_pick, kPick_bool, kPick_kif, ↓execI_iadr, kIadr_sl, ↓execI_idxs, kIdxs_str, ↓execI_len, ↓rdB_ld, kRd_ptr, kRd_tptr, kRd_tup, kRd_kif, kOpsW_bs, gt0, st0, gt1, st1, gt2, st2, gt3, st3, gt4, st4, gt5, st5, gt6, st6, gt7, st7, gt8, st8, -kWant_bool, -Int.not_le, -Int.not_lt, -decide_eq_true_eq, -decide_eq_false_iff_not, -List.getD_eq_getElem?_getD, -List.set_cons_succ, -List.set_cons_zero, -Bool.and_eq_true, -Bool.or_eq_true, -Bool.not_eq_eq_eq_not, -Bool.or_eq_false_iff, -Bool.and_eq_false_imp, -Bool.not_eq_true, -Bool.not_eq_false]
theorem t29 (k : Nat) (a : Arc) (ii : Int) (h : okW a) (h2 : 0 ≤ ii ∧ ii ≤ 256) : callF tbl pu (k + 1) 29 [.agg [.int .i64 a.fr, .int .i64 a.to, .int .i64 a.lat, .int .i64 a.di], .int .i64 ii] [] = some (.int .i64 (wtA a ii), [], false) := by
  rw [callF_eq tbl29, c29]
  have hb := wt_bd h h2
  obtain ⟨h3, h4, h5, h6⟩ := h
  have m1 : imax a.lat (-1048576) = a.lat := imax_l (by omega)
  have m2 : imin a.lat 1048576 = a.lat := imin_l (by omega)
  have m3 : imax ii 0 = ii := imax_l (by omega)
  have m4 : imin ii 256 = ii := imin_l (by omega)
  have m5 : imax a.di (-1048576) = a.di := imax_l (by omega)
  have m6 : imin a.di 1048576 = a.di := imin_l (by omega)
  have w0 : IntKind.i64.wrap (-1048576) = -1048576 := by decide
  have w1 : IntKind.i64.wrap (ii * a.di) = ii * a.di := wrap64 (by omega) (by omega)
  have w2 : IntKind.i64.wrap (a.lat - ii * a.di) = a.lat - ii * a.di := wrap64 (by omega) (by omega)
  simp (contextual := true) (maxSteps := 10000000) (implicitDefEqProofs := false) [↓execI_neg, kNeg_int, m1, m2, m3, m4, m5, m6, w0, w1, w2, wtA, kCond_kc, kc_kif, ↓kif_tr, ↓kif_fl, kif_tr, kif_fl, kif_same, ↓kif_not, ↓kif_or, ↓kifg_tr, ↓kifg_fl, ↓kifg_not, ↓kifg_or, ↓kifg_and, kifg_kif, kifB_t, kifB_f, kifB_ft, kifB_tt, kif_bool, kif_int, mergeL, mergeV, mergeS, mergeRs, kSeq_kif, kBlk_kif, kPost_kif, kNext_kif, kFin_kif, kReg_kif, kOps_kif, kO_kif, kG_kif, kDrw_kif, kW_kif, kOpsW_kif, kRet_kif, map_kif, bind_kif, kWant_t, kWant_f, kWant_kif, ↓execI_pick, kPick_bool, kPick_kif, ↓execI_iadr, kIadr_sl, ↓execI_idxs, kIdxs_str, ↓execI_len, ↓rdB_ld, kRd_ptr, kRd_tptr, kRd_tup, kRd_kif, kOpsW_bs, gt0, st0, gt1, st1, gt2, st2, gt3, st3, gt4, st4, gt5, st5, gt6, st6, gt7, st7, gt8, st8, -kWant_bool, -Int.not_le, -Int.not_lt, -decide_eq_true_eq, -decide_eq_false_iff_not, -List.getD_eq_getElem?_getD, -List.set_cons_succ, -List.set_cons_zero, -Bool.and_eq_true, -Bool.or_eq_true, -Bool.not_eq_eq_eq_not, -Bool.or_eq_false_iff, -Bool.and_eq_false_imp, -Bool.not_eq_true, -Bool.not_eq_false]
theorem t22 (k : Nat) (f : Fl) (hf : f.Ok) (h : 0 ≤ f.ins ∧ f.ins ≤ 4096 ∧ 0 ≤ f.par ∧ f.par ≤ 4094) : callF tbl pu (k + 1) 22 [f.v] [] = some (.int .i64 (f.ins + f.par + 2), [], false) := by
  unfold Fl.v
  rw [callF_eq tbl22, c22]
  have ga := Sl.ls hf.a
  have gr := Sl.ls hf.r
  have gn := Sl.ls hf.n
  have w1 : IntKind.i64.wrap (f.ins + f.par) = f.ins + f.par := wrap64 (by omega) (by omega)
  have w2 : IntKind.i64.wrap (f.ins + f.par + 2) = f.ins + f.par + 2 := wrap64 (by omega) (by omega)
  simp (contextual := true) (maxSteps := 10000000) (implicitDefEqProofs := false) [w1, w2, ga.all, gr.all, gn.all, kCond_kc, kc_kif, ↓kif_tr, ↓kif_fl, kif_tr, kif_fl, kif_same, ↓kif_not, ↓kif_or, ↓kifg_tr, ↓kifg_fl, ↓kifg_not, ↓kifg_or, ↓kifg_and, kifg_kif, kifB_t, kifB_f, kifB_ft, kifB_tt, kif_bool, kif_int, mergeL, mergeV, mergeS, mergeRs, kSeq_kif, kBlk_kif, kPost_kif, kNext_kif, kFin_kif, kReg_kif, kOps_kif, kO_kif, kG_kif, kDrw_kif, kW_kif, kOpsW_kif, kRet_kif, map_kif, bind_kif, kWant_t, kWant_f, kWant_kif, ↓execI_pick, kPick_bool, kPick_kif, ↓execI_iadr, kIadr_sl, ↓execI_idxs, kIdxs_str, ↓execI_len, ↓rdB_ld, kRd_ptr, kRd_tptr, kRd_tup, kRd_kif, kOpsW_bs, gt0, st0, gt1, st1, gt2, st2, gt3, st3, gt4, st4, gt5, st5, gt6, st6, gt7, st7, gt8, st8, -kWant_bool, -Int.not_le, -Int.not_lt, -decide_eq_true_eq, -decide_eq_false_iff_not, -List.getD_eq_getElem?_getD, -List.set_cons_succ, -List.set_cons_zero, -Bool.and_eq_true, -Bool.or_eq_true, -Bool.not_eq_eq_eq_not, -Bool.or_eq_false_iff, -Bool.and_eq_false_imp, -Bool.not_eq_true, -Bool.not_eq_false]
/-! bounds.loop -/
theorem t20 (K : Nat) (f : Fl) (hf : f.Ok) (hA : f.A.length ≤ 90) (hR : f.R.length ≤ 6) (hN : f.N.length ≤ 20) (hK : 20000 ≤ K) : ∃ n d, callF tbl pu K 20 [f.v] [] = some (.int .i64 n, [], d) ∧ (n = 0 ↔ validP f ∧ f.loop = true) := by
  obtain ⟨k, rfl⟩ : ∃ k, K = k + f.A.length + f.R.length + f.N.length + 10020 + 1 := ⟨K - (f.A.length + f.R.length + f.N.length + 10021), by omega⟩
  have h30 := d30 k f hf (by omega) (by omega) (by omega)
  obtain ⟨b, d, q, hb⟩ := h30
  rw [callF_eq tbl20, c20]
  have ga := Sl.ls hf.a
  have gr := Sl.ls hf.r
  have gn := Sl.ls hf.n
  unfold Fl.v at q ⊢
  cases b with
  | false =>
    have h1 : ¬ validP f := fun h => by have := hb.2 h; cases this
    refine ⟨3, false, ?_, by simp [h1]⟩
    simp (contextual := true) (maxSteps := 10000000) (implicitDefEqProofs := false) [callV_pu, q, ga.all, gr.all, gn.all, kCond_kc, kc_kif, ↓kif_tr, ↓kif_fl, kif_tr, kif_fl, kif_same, ↓kif_not, ↓kif_or, ↓kifg_tr, ↓kifg_fl, ↓kifg_not, ↓kifg_or, ↓kifg_and, kifg_kif, kifB_t, kifB_f, kifB_ft, kifB_tt, kif_bool, kif_int, mergeL, mergeV, mergeS, mergeRs, kSeq_kif, kBlk_kif, kPost_kif, kNext_kif, kFin_kif, kReg_kif, kOps_kif, kO_kif, kG_kif, kDrw_kif, kW_kif, kOpsW_kif, kRet_kif, map_kif, bind_kif, kWant_t, kWant_f, kWant_kif, ↓execI_pick, kPick_bool, kPick_kif, ↓execI_iadr, kIadr_sl, ↓execI_idxs, kIdxs_str, ↓execI_len, ↓rdB_ld, kRd_ptr, kRd_tptr, kRd_tup, kRd_kif, kOpsW_bs, gt0, st0, gt1, st1, gt2, st2, gt3, st3, gt4, st4, gt5, st5, gt6, st6, gt7, st7, gt8, st8, -kWant_bool, -Int.not_le, -Int.not_lt, -decide_eq_true_eq, -decide_eq_false_iff_not, -List.getD_eq_getElem?_getD, -List.set_cons_succ, -List.set_cons_zero, -Bool.and_eq_true, -Bool.or_eq_true, -Bool.not_eq_eq_eq_not, -Bool.or_eq_false_iff, -Bool.and_eq_false_imp, -Bool.not_eq_true, -Bool.not_eq_false]
  | true =>
    have h1 : validP f := hb.1 rfl
    cases hl : f.loop with
    | false =>
      refine ⟨1, false, ?_, by simp⟩
      rw [hl] at q
      simp (contextual := true) (maxSteps := 10000000) (implicitDefEqProofs := false) [callV_pu, q, ga.all, gr.all, gn.all, kCond_kc, kc_kif, ↓kif_tr, ↓kif_fl, kif_tr, kif_fl, kif_same, ↓kif_not, ↓kif_or, ↓kifg_tr, ↓kifg_fl, ↓kifg_not, ↓kifg_or, ↓kifg_and, kifg_kif, kifB_t, kifB_f, kifB_ft, kifB_tt, kif_bool, kif_int, mergeL, mergeV, mergeS, mergeRs, kSeq_kif, kBlk_kif, kPost_kif, kNext_kif, kFin_kif, kReg_kif, kOps_kif, kO_kif, kG_kif, kDrw_kif, kW_kif, kOpsW_kif, kRet_kif, map_kif, bind_kif, kWant_t, kWant_f, kWant_kif, ↓execI_pick, kPick_bool, kPick_kif, ↓execI_iadr, kIadr_sl, ↓execI_idxs, kIdxs_str, ↓execI_len, ↓rdB_ld, kRd_ptr, kRd_tptr, kRd_tup, kRd_kif, kOpsW_bs, gt0, st0, gt1, st1, gt2, st2, gt3, st3, gt4, st4, gt5, st5, gt6, st6, gt7, st7, gt8, st8, -kWant_bool, -Int.not_le, -Int.not_lt, -decide_eq_true_eq, -decide_eq_false_iff_not, -List.getD_eq_getElem?_getD, -List.set_cons_succ, -List.set_cons_zero, -Bool.and_eq_true, -Bool.or_eq_true, -Bool.not_eq_eq_eq_not, -Bool.or_eq_false_iff, -Bool.and_eq_false_imp, -Bool.not_eq_true, -Bool.not_eq_false]
    | true =>
      refine ⟨0, false, ?_, by simp [h1]⟩
      rw [hl] at q
      simp (contextual := true) (maxSteps := 10000000) (implicitDefEqProofs := false) [callV_pu, q, ga.all, gr.all, gn.all, kCond_kc, kc_kif, ↓kif_tr, ↓kif_fl, kif_tr, kif_fl, kif_same, ↓kif_not, ↓kif_or, ↓kifg_tr, ↓kifg_fl, ↓kifg_not, ↓kifg_or, ↓kifg_and, kifg_kif, kifB_t, kifB_f, kifB_ft, kifB_tt, kif_bool, kif_int, mergeL, mergeV, mergeS, mergeRs, kSeq_kif, kBlk_kif, kPost_kif, kNext_kif, kFin_kif, kReg_kif, kOps_kif, kO_kif, kG_kif, kDrw_kif, kW_kif, kOpsW_kif, kRet_kif, map_kif, bind_kif, kWant_t, kWant_f, kWant_kif, ↓execI_pick, kPick_bool, kPick_kif, ↓execI_iadr, kIadr_sl, ↓execI_idxs, kIdxs_str, ↓execI_len, ↓rdB_ld, kRd_ptr, kRd_tptr, kRd_tup, kRd_kif, kOpsW_bs, gt0, st0, gt1, st1, gt2, st2, gt3, st3, gt4, st4, gt5, st5, gt6, st6, gt7, st7, gt8, st8, -kWant_bool, -Int.not_le, -Int.not_lt, -decide_eq_true_eq, -decide_eq_false_iff_not, -List.getD_eq_getElem?_getD, -List.set_cons_succ, -List.set_cons_zero, -Bool.and_eq_true, -Bool.or_eq_true, -Bool.not_eq_eq_eq_not, -Bool.or_eq_false_iff, -Bool.and_eq_false_imp, -Bool.not_eq_true, -Bool.not_eq_false]
end Go.AM.Ytdgineiemjplhaa
