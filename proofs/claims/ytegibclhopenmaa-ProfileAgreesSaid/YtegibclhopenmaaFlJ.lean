/- jacquardref08.Valid: the rounds of its loops. -/
import Derived.Test.YtegibclhopenmaaFlI
set_option linter.unusedVariables false
set_option linter.unusedSimpArgs false
namespace Go.AM.Ytegibclhopenmaa
open Go Go.AM
set_option maxRecDepth 100000
set_option maxHeartbeats 0
attribute [local congr] kif_congr
/-- n bools -/
def BS (n : Nat) (es : List (List V)) : Prop := es.length = n ∧ ∀ i, i < n → ∃ b, es[i]? = some [.bool b]
def bat (es : List (List V)) (i : Nat) : Bool := boolV ((es.getD i []).getD 0 .undef)
theorem BS_get {n : Nat} {es : List (List V)} (h : BS n es) {x : Int} (h1 : decide (x < 0) = false) (h2 : decide ((n : Int) ≤ x) = false) : es[x.toNat]? = some [.bool (bat es x.toNat)] := by
  simp at h1 h2
  obtain ⟨b, hb⟩ := h.2 x.toNat (by omega)
  rw [hb]
  have : es.getD x.toNat [] = [.bool b] := by rw [List.getD_eq_getElem?_getD, hb]; rfl
  unfold bat
  rw [this]; rfl
theorem BS_set {n : Nat} {es : List (List V)} (h : BS n es) (i : Nat) (b : Bool) : BS n (es.set i [.bool b]) := by
  refine ⟨by simp [h.1], fun k hk => ?_⟩
  by_cases hik : k = i
  · subst hik
    exact ⟨b, List.getElem?_set_self (by have := h.1; omega)⟩
  · rw [List.getElem?_set_ne (by omega)]
    exact h.2 k hk
theorem BS_app {n : Nat} {es : List (List V)} (h : BS n es) (b : Bool) : BS (n + 1) (es ++ [[.bool b]]) := by
  refine ⟨by simp [h.1], fun k hk => ?_⟩
  by_cases hc : k < n
  · obtain ⟨x, h1⟩ := h.2 k hc
    exact ⟨x, by rw [List.getElem?_append_left (by have := h.1; omega)]; exact h1⟩
  · obtain rfl : k = es.length := by have := h.1; omega
    exact ⟨b, by simp⟩
theorem BS_KB {n : Nat} {es : List (List V)} (h : BS n es) : KB n (.tsl 1 es) := by
  refine ⟨.inr ⟨es, rfl⟩, h.1, fun i hi => ?_⟩
  obtain ⟨b, hb⟩ := h.2 i hi
  have h1 : row (.tsl 1 es) i = [.bool b] := by
    show es.getD i [] = _
    rw [List.getD_eq_getElem?_getD, hb]; rfl
  rw [bc, cel, h1]; rfl
/-- the bools that are collected behind a prefix -/
def DB (P : Heap) (j : Nat) (v : V) (H : Heap) : Prop := (j = 0 ∧ v = .nils ∧ H = P) ∨ (0 < j ∧ ∃ es, v = .sl 1 P.length j 0 j ∧ H = P ++ [⟨1, es, 0, false, true⟩] ∧ BS j es)
def T16a (n : Nat) (v : V) (H : Heap) (j : Nat) (d : Bool) : St := ⟨[.undef, .ptr 0 1 0 0, .undef, v, .undef, .undef, .undef, .undef, .undef, .undef, .undef, .undef, .undef, .undef, .undef, .undef, .undef, .undef, .undef, .undef, .undef, .undef, .undef, .undef, .undef, .undef, .undef, .undef, .undef, .undef, .undef, .undef, .undef, .undef, .undef, .undef, .undef, .undef, .undef, .undef, .undef, .undef, .undef, .undef, .undef, .undef, .int .i64 n, .int .i64 j, .undef, .undef, .undef, .undef, .undef, .undef, .undef, .undef, .undef, .undef, .undef, .undef, .undef, .undef, .undef, .undef, .undef, .undef, .undef, .undef, .undef, .undef, .undef, .undef, .undef, .undef, .undef, .undef, .undef, .undef, .undef, .undef, .undef, .undef, .undef, .undef, .undef, .undef, .undef, .undef, .undef, .undef, .undef, .undef, .undef, .undef, .undef, .undef, .undef, .undef, .undef, .undef, .undef, .undef, .undef, .undef, .undef, .undef, .undef, .undef, .undef, .undef, .undef, .undef, .undef, .undef, .undef, .undef, .undef, .undef, .undef, .undef, .undef, .undef, .undef, .undef, .undef, .undef, .undef, .undef, .undef, .undef, .undef, .undef, .undef, .undef, .undef, .undef, .undef, .undef, .undef, .undef, .undef, .undef, .undef, .undef, .undef, .undef, .undef, .undef, .undef, .undef, .undef, .undef, .undef, .undef, .undef, .undef, .undef, .undef, .undef, .undef, .undef, .undef, .undef, .undef, .undef, .undef, .undef, .undef, .undef, .undef, .undef, .undef, .undef, .undef, .undef, .undef, .undef, .undef, .undef, .undef, .undef, .undef, .undef, .undef, .undef, .undef, .undef, .undef, .undef, .undef, .undef, .undef, .undef, .undef, .undef, .undef, .undef, .undef, .undef, .undef, .undef, .undef], H, d⟩
def I16a (B : Blk) (n j : Nat) (t : St) : Prop := ∃ v H d, DB [B] j v H ∧ t = T16a n v H j d
theorem g16a (call : CallT) (K : Nat) (nm : ByteArray) (w ar st rt bl : V) (h : OkF nm w ar st rt bl) (j : Nat) (hj : j < lenV w) (t : St) (ht : I16a (bxF nm w ar st rt bl) (lenV w) j t) : Go1 (tidy [1, 3, 46, 47] 0) (I16a (bxF nm w ar st rt bl) (lenV w) (j + 1)) (fun _ => False) (execC call pu 0 K c16_b4 t) := by
  obtain ⟨v, H, d, hb, rfl⟩ := ht
  have gw := LS22 h.w
  have ga := LS23 h.ar
  have gs := LS24 h.st
  have gr := LS22 h.rt
  have gb := LS25 h.bl
  have hL := len22 h.w
  simp only [LMAX] at hL
  have h1 : IntKind.i64.wrap ((j : Int) + 1) = (j : Int) + 1 := wrap64 (by omega) (by omega)
  have h4 : decide (j < lenV w) = true := by simp; omega
  rcases hb with ⟨hj0, rfl, rfl⟩ | ⟨hj0, es, rfl, rfl, hes⟩
  · have fin : I16a (bxF nm w ar st rt bl) (lenV w) (j + 1) (T16a (lenV w) (.sl 1 1 1 0 1) [bxF nm w ar st rt bl, ⟨1, [[.bool false]], 0, false, true⟩] (j + 1) d) := ⟨_, _, _, .inr ⟨by omega, [[.bool false]], by rw [hj0]; rfl, rfl, by rw [hj0]; exact BS_app (n := 0) (es := []) ⟨rfl, fun i hi => absurd hi (by omega)⟩ false⟩, rfl⟩
    simp only [T16a, bxF, Int.natCast_add, Int.natCast_one] at fin
    unfold c16_b4 T16a bxF
    generalize I16a _ (lenV w) (j + 1) = II at fin ⊢
    simp (contextual := true) (maxSteps := 10000000) (implicitDefEqProofs := false) [h1, h4, gw.all, ga.all, gs.all, gr.all, gb.all, appV, elemsOf, roomB, freezeH, fin, Go1_kif, Go1_ret, Go1_normal, Go1_exit, RtF_ret, ex_eq, ex_eq2, tidy, kCond_kc, kc_kif, ↓kif_tr, ↓kif_fl, kif_tr, kif_fl, kif_same, ↓kif_not, ↓kif_or, ↓kifg_tr, ↓kifg_fl, ↓kifg_not, ↓kifg_or, ↓kifg_and, kifg_kif, kifB_t, kifB_f, kifB_ft, kifB_tt, kif_bool, kif_int, mergeL, mergeV, mergeS, mergeRs, kSeq_kif, kBlk_kif, kPost_kif, kNext_kif, kFin_kif, kReg_kif, kOps_kif, kO_kif, kG_kif, kDrw_kif, kW_kif, kOpsW_kif, kRet_kif, map_kif, bind_kif, kWant_t, kWant_f, kWant_kif, ↓execI_pick, kPick_bool, kPick_kif, ↓execI_iadr, kIadr_sl, ↓execI_idxs, kIdxs_str, ↓execI_len, ↓rdB_ld, kRd_ptr, kRd_tptr, kRd_tup, kRd_kif, kOpsW_bs, gt0, st0, gt1, st1, gt2, st2, gt3, st3, gt4, st4, gt5, st5, gt6, st6, gt7, st7, gt8, st8, -kWant_bool, -Int.not_le, -Int.not_lt, -decide_eq_true_eq, -decide_eq_false_iff_not, -List.getD_eq_getElem?_getD, -List.set_cons_succ, -List.set_cons_zero, -Bool.and_eq_true, -Bool.or_eq_true, -Bool.not_eq_eq_eq_not, -Bool.or_eq_false_iff, -Bool.and_eq_false_imp, -Bool.not_eq_true, -Bool.not_eq_false]
  · have r1 : (j + 1) * 1 ≤ 140737488351232 := by omega
    have r2 : j + 1 ≤ 140737488351232 := by omega
    have lg : ¬ j + 1 ≤ j := by omega
    have hl := hes.1
    have tak : es.take j = es := List.take_of_length_le (by omega)
    have dr : es.drop (j + 1) = [] := List.drop_eq_nil_of_le (by omega)
    have fin : I16a (bxF nm w ar st rt bl) (lenV w) (j + 1) (T16a (lenV w) (.sl 1 1 (j + 1) 0 (j + 1)) [bxF nm w ar st rt bl, ⟨1, es ++ [[.bool false]], 0, false, true⟩] (j + 1) true) := ⟨_, _, _, .inr ⟨by omega, _, rfl, rfl, BS_app hes false⟩, rfl⟩
    simp only [T16a, bxF, Int.natCast_add, Int.natCast_one] at fin
    unfold c16_b4 T16a bxF
    generalize I16a _ (lenV w) (j + 1) = II at fin ⊢
    simp (contextual := true) (maxSteps := 10000000) (implicitDefEqProofs := false) [h1, h4, gw.all, ga.all, gs.all, gr.all, gb.all, appV, elemsOf, roomB, freezeH, hl, r1, r2, lg, tak, dr, fin, Go1_kif, Go1_ret, Go1_normal, Go1_exit, RtF_ret, ex_eq, ex_eq2, tidy, kCond_kc, kc_kif, ↓kif_tr, ↓kif_fl, kif_tr, kif_fl, kif_same, ↓kif_not, ↓kif_or, ↓kifg_tr, ↓kifg_fl, ↓kifg_not, ↓kifg_or, ↓kifg_and, kifg_kif, kifB_t, kifB_f, kifB_ft, kifB_tt, kif_bool, kif_int, mergeL, mergeV, mergeS, mergeRs, kSeq_kif, kBlk_kif, kPost_kif, kNext_kif, kFin_kif, kReg_kif, kOps_kif, kO_kif, kG_kif, kDrw_kif, kW_kif, kOpsW_kif, kRet_kif, map_kif, bind_kif, kWant_t, kWant_f, kWant_kif, ↓execI_pick, kPick_bool, kPick_kif, ↓execI_iadr, kIadr_sl, ↓execI_idxs, kIdxs_str, ↓execI_len, ↓rdB_ld, kRd_ptr, kRd_tptr, kRd_tup, kRd_kif, kOpsW_bs, gt0, st0, gt1, st1, gt2, st2, gt3, st3, gt4, st4, gt5, st5, gt6, st6, gt7, st7, gt8, st8, -kWant_bool, -Int.not_le, -Int.not_lt, -decide_eq_true_eq, -decide_eq_false_iff_not, -List.getD_eq_getElem?_getD, -List.set_cons_succ, -List.set_cons_zero, -Bool.and_eq_true, -Bool.or_eq_true, -Bool.not_eq_eq_eq_not, -Bool.or_eq_false_iff, -Bool.and_eq_false_imp, -Bool.not_eq_true, -Bool.not_eq_false]
theorem x16a (call : CallT) (K : Nat) (B : Blk) (n : Nat) (t : St) (ht : I16a B n n t) : Nn (execC call pu 0 K c16_b4 t) := by
  obtain ⟨v, H, d, hb, rfl⟩ := ht
  unfold c16_b4 T16a
  simp (contextual := true) (maxSteps := 10000000) (implicitDefEqProofs := false) [Nn_exit, kCond_kc, kc_kif, ↓kif_tr, ↓kif_fl, kif_tr, kif_fl, kif_same, ↓kif_not, ↓kif_or, ↓kifg_tr, ↓kifg_fl, ↓kifg_not, ↓kifg_or, ↓kifg_and, kifg_kif, kifB_t, kifB_f, kifB_ft, kifB_tt, kif_bool, kif_int, mergeL, mergeV, mergeS, mergeRs, kSeq_kif, kBlk_kif, kPost_kif, kNext_kif, kFin_kif, kReg_kif, kOps_kif, kO_kif, kG_kif, kDrw_kif, kW_kif, kOpsW_kif, kRet_kif, map_kif, bind_kif, kWant_t, kWant_f, kWant_kif, ↓execI_pick, kPick_bool, kPick_kif, ↓execI_iadr, kIadr_sl, ↓execI_idxs, kIdxs_str, ↓execI_len, ↓rdB_ld, kRd_ptr, kRd_tptr, kRd_tup, kRd_kif, kOpsW_bs, gt0, st0, gt1, st1, gt2, st2, gt3, st3, gt4, st4, gt5, st5, gt6, st6, gt7, st7, gt8, st8, -kWant_bool, -Int.not_le, -Int.not_lt, -decide_eq_true_eq, -decide_eq_false_iff_not, -List.getD_eq_getElem?_getD, -List.set_cons_succ, -List.set_cons_zero, -Bool.and_eq_true, -Bool.or_eq_true, -Bool.not_eq_eq_eq_not, -Bool.or_eq_false_iff, -Bool.and_eq_false_imp, -Bool.not_eq_true, -Bool.not_eq_false]
structure OkX (ps iss : V) (tc : Int) (to rs : V) : Prop where
  p : S22 [ps]
  i : S88 [iss]
  c : wfI tc
  t : S85 [to]
  r : S22 [rs]
def bxX (ps iss : V) (tk tc : Int) (to rs : V) (pi un li : Int) : Blk := ⟨9, [[ps, iss, .int .i64 tk, .int .i64 tc, to, rs, .int .i64 pi, .int .i64 un, .int .i64 li]], 0, true, ps.flat && (iss.flat && (to.flat && rs.flat))⟩
def bxD (es : List (List V)) : Blk := ⟨1, es, 0, false, true⟩
/-- the loop that makes 'known' -/
def T16k (n b : Nat) (v : V) (H : Heap) (j : Nat) (d : Bool) : St := ⟨[.undef, .ptr 0 1 0 0, .undef, .sl 1 1 n 0 n, .int .i64 b, .ptr 2 1 0 0, v, .undef, .undef, .undef, .undef, .undef, .undef, .undef, .undef, .undef, .undef, .undef, .undef, .undef, .undef, .undef, .undef, .undef, .undef, .undef, .undef, .undef, .undef, .undef, .undef, .undef, .undef, .undef, .undef, .undef, .undef, .undef, .undef, .undef, .undef, .undef, .undef, .undef, .undef, .undef, .undef, .undef, .undef, .undef, .undef, .undef, .undef, .undef, .undef, .undef, .undef, .undef, .undef, .undef, .undef, .undef, .undef, .undef, .undef, .undef, .undef, .undef, .undef, .undef, .undef, .undef, .undef, .undef, .undef, .undef, .undef, .undef, .undef, .undef, .undef, .undef, .undef, .undef, .undef, .undef, .undef, .undef, .undef, .undef, .undef, .undef, .undef, .undef, .undef, .undef, .undef, .undef, .undef, .undef, .undef, .int .i64 n, .int .i64 j, .undef, .undef, .undef, .undef, .undef, .undef, .undef, .undef, .undef, .undef, .undef, .undef, .undef, .undef, .undef, .undef, .undef, .undef, .undef, .undef, .undef, .undef, .undef, .undef, .undef, .undef, .undef, .undef, .undef, .undef, .undef, .undef, .undef, .undef, .undef, .undef, .undef, .undef, .undef, .undef, .undef, .undef, .undef, .undef, .undef, .undef, .undef, .undef, .undef, .undef, .undef, .undef, .undef, .undef, .undef, .undef, .undef, .undef, .undef, .undef, .undef, .undef, .undef, .undef, .undef, .undef, .undef, .undef, .undef, .undef, .undef, .undef, .undef, .undef, .undef, .undef, .undef, .undef, .undef, .undef, .undef, .undef, .undef, .undef, .undef, .undef, .undef, .undef, .undef, .undef, .undef, .undef, .undef, .undef, .undef, .undef, .undef, .undef, .undef], H, d⟩
def I16k (P : Heap) (n b j : Nat) (t : St) : Prop := ∃ v H d, DB P j v H ∧ t = T16k n b v H j d
theorem g16k (call : CallT) (K : Nat) (nm : ByteArray) (w ar st rt bl : V) (h : OkF nm w ar st rt bl) (ps iss : V) (tk tc : Int) (to rs : V) (pi un li : Int) (hx : OkX ps iss tc to rs) (ds : List (List V)) (b j : Nat) (hd : BS (lenV w) ds) (hj : j < lenV w) (t : St) (ht : I16k [bxF nm w ar st rt bl, bxD ds, bxX ps iss tk tc to rs pi un li] (lenV w) b j t) : Go1 (tidy [1, 3, 4, 5, 6, 101, 102] 0) (I16k [bxF nm w ar st rt bl, bxD ds, bxX ps iss tk tc to rs pi un li] (lenV w) b (j + 1)) (fun _ => False) (execC call pu 0 K c16_b2 t) := by
  obtain ⟨v, H, d, hb, rfl⟩ := ht
  have gw := LS22 h.w
  have ga := LS23 h.ar
  have gs := LS24 h.st
  have gr := LS22 h.rt
  have gb := LS25 h.bl
  have xp := LS22 hx.p
  have xi := LS88 hx.i
  have xt := LS85 hx.t
  have xr := LS22 hx.r
  have hL := len22 h.w
  simp only [LMAX] at hL
  have hdl := hd.1
  have h1 : IntKind.i64.wrap ((j : Int) + 1) = (j : Int) + 1 := wrap64 (by omega) (by omega)
  have h4 : decide (j < lenV w) = true := by simp; omega
  rcases hb with ⟨hj0, rfl, rfl⟩ | ⟨hj0, es, rfl, rfl, hes⟩
  · have fin : I16k [bxF nm w ar st rt bl, bxD ds, bxX ps iss tk tc to rs pi un li] (lenV w) b (j + 1) (T16k (lenV w) b (.sl 1 3 1 0 1) [bxF nm w ar st rt bl, bxD ds, bxX ps iss tk tc to rs pi un li, ⟨1, [[.bool false]], 0, false, true⟩] (j + 1) d) := ⟨_, _, _, .inr ⟨by omega, [[.bool false]], by rw [hj0]; rfl, rfl, by rw [hj0]; exact BS_app (n := 0) (es := []) ⟨rfl, fun i hi => absurd hi (by omega)⟩ false⟩, rfl⟩
    generalize I16k _ (lenV w) b (j + 1) = II at fin ⊢
    simp only [T16k, bxF, bxD, bxX, Int.natCast_add, Int.natCast_one] at fin
    unfold c16_b2 T16k bxF bxD bxX
    simp (contextual := true) (maxSteps := 10000000) (implicitDefEqProofs := false) [h1, h4, hdl, gw.all, ga.all, gs.all, gr.all, gb.all, xp.all, xi.all, xt.all, xr.all, appV, elemsOf, roomB, freezeH, fin, Go1_kif, Go1_ret, Go1_normal, Go1_exit, RtF_ret, ex_eq, ex_eq2, tidy, kCond_kc, kc_kif, ↓kif_tr, ↓kif_fl, kif_tr, kif_fl, kif_same, ↓kif_not, ↓kif_or, ↓kifg_tr, ↓kifg_fl, ↓kifg_not, ↓kifg_or, ↓kifg_and, kifg_kif, kifB_t, kifB_f, kifB_ft, kifB_tt, kif_bool, kif_int, mergeL, mergeV, mergeS, mergeRs, kSeq_kif, kBlk_kif, kPost_kif, kNext_kif, kFin_kif, kReg_kif, kOps_kif, kO_kif, kG_kif, kDrw_kif, kW_kif, kOpsW_kif, kRet_kif, map_kif, bind_kif, kWant_t, kWant_f, kWant_kif, ↓execI_pick, kPick_bool, kPick_kif, ↓execI_iadr, kIadr_sl, ↓execI_idxs, kIdxs_str, ↓execI_len, ↓rdB_ld, kRd_ptr, kRd_tptr, kRd_tup, kRd_kif, kOpsW_bs, gt0, st0, gt1, st1, gt2, st2, gt3, st3, gt4, st4, gt5, st5, gt6, st6, gt7, st7, gt8, st8, -kWant_bool, -Int.not_le, -Int.not_lt, -decide_eq_true_eq, -decide_eq_false_iff_not, -List.getD_eq_getElem?_getD, -List.set_cons_succ, -List.set_cons_zero, -Bool.and_eq_true, -Bool.or_eq_true, -Bool.not_eq_eq_eq_not, -Bool.or_eq_false_iff, -Bool.and_eq_false_imp, -Bool.not_eq_true, -Bool.not_eq_false]
  · have r1 : (j + 1) * 1 ≤ 140737488351232 := by omega
    have r2 : j + 1 ≤ 140737488351232 := by omega
    have lg : ¬ j + 1 ≤ j := by omega
    have hl := hes.1
    have tak : es.take j = es := List.take_of_length_le (by omega)
    have dr : es.drop (j + 1) = [] := List.drop_eq_nil_of_le (by omega)
    have fin : I16k [bxF nm w ar st rt bl, bxD ds, bxX ps iss tk tc to rs pi un li] (lenV w) b (j + 1) (T16k (lenV w) b (.sl 1 3 (j + 1) 0 (j + 1)) [bxF nm w ar st rt bl, bxD ds, bxX ps iss tk tc to rs pi un li, ⟨1, es ++ [[.bool false]], 0, false, true⟩] (j + 1) true) := ⟨_, _, _, .inr ⟨by omega, _, rfl, rfl, BS_app hes false⟩, rfl⟩
    generalize I16k _ (lenV w) b (j + 1) = II at fin ⊢
    simp only [T16k, bxF, bxD, bxX, Int.natCast_add, Int.natCast_one] at fin
    unfold c16_b2 T16k bxF bxD bxX
    simp (contextual := true) (maxSteps := 10000000) (implicitDefEqProofs := false) [h1, h4, hdl, gw.all, ga.all, gs.all, gr.all, gb.all, xp.all, xi.all, xt.all, xr.all, appV, elemsOf, roomB, freezeH, hl, r1, r2, lg, tak, dr, fin, Go1_kif, Go1_ret, Go1_normal, Go1_exit, RtF_ret, ex_eq, ex_eq2, tidy, kCond_kc, kc_kif, ↓kif_tr, ↓kif_fl, kif_tr, kif_fl, kif_same, ↓kif_not, ↓kif_or, ↓kifg_tr, ↓kifg_fl, ↓kifg_not, ↓kifg_or, ↓kifg_and, kifg_kif, kifB_t, kifB_f, kifB_ft, kifB_tt, kif_bool, kif_int, mergeL, mergeV, mergeS, mergeRs, kSeq_kif, kBlk_kif, kPost_kif, kNext_kif, kFin_kif, kReg_kif, kOps_kif, kO_kif, kG_kif, kDrw_kif, kW_kif, kOpsW_kif, kRet_kif, map_kif, bind_kif, kWant_t, kWant_f, kWant_kif, ↓execI_pick, kPick_bool, kPick_kif, ↓execI_iadr, kIadr_sl, ↓execI_idxs, kIdxs_str, ↓execI_len, ↓rdB_ld, kRd_ptr, kRd_tptr, kRd_tup, kRd_kif, kOpsW_bs, gt0, st0, gt1, st1, gt2, st2, gt3, st3, gt4, st4, gt5, st5, gt6, st6, gt7, st7, gt8, st8, -kWant_bool, -Int.not_le, -Int.not_lt, -decide_eq_true_eq, -decide_eq_false_iff_not, -List.getD_eq_getElem?_getD, -List.set_cons_succ, -List.set_cons_zero, -Bool.and_eq_true, -Bool.or_eq_true, -Bool.not_eq_eq_eq_not, -Bool.or_eq_false_iff, -Bool.and_eq_false_imp, -Bool.not_eq_true, -Bool.not_eq_false]
theorem x16k (call : CallT) (K : Nat) (P : Heap) (n b : Nat) (t : St) (ht : I16k P n b n t) : Nn (execC call pu 0 K c16_b2 t) := by
  obtain ⟨v, H, d, hb, rfl⟩ := ht
  unfold c16_b2 T16k
  simp (contextual := true) (maxSteps := 10000000) (implicitDefEqProofs := false) [Nn_exit, kCond_kc, kc_kif, ↓kif_tr, ↓kif_fl, kif_tr, kif_fl, kif_same, ↓kif_not, ↓kif_or, ↓kifg_tr, ↓kifg_fl, ↓kifg_not, ↓kifg_or, ↓kifg_and, kifg_kif, kifB_t, kifB_f, kifB_ft, kifB_tt, kif_bool, kif_int, mergeL, mergeV, mergeS, mergeRs, kSeq_kif, kBlk_kif, kPost_kif, kNext_kif, kFin_kif, kReg_kif, kOps_kif, kO_kif, kG_kif, kDrw_kif, kW_kif, kOpsW_kif, kRet_kif, map_kif, bind_kif, kWant_t, kWant_f, kWant_kif, ↓execI_pick, kPick_bool, kPick_kif, ↓execI_iadr, kIadr_sl, ↓execI_idxs, kIdxs_str, ↓execI_len, ↓rdB_ld, kRd_ptr, kRd_tptr, kRd_tup, kRd_kif, kOpsW_bs, gt0, st0, gt1, st1, gt2, st2, gt3, st3, gt4, st4, gt5, st5, gt6, st6, gt7, st7, gt8, st8, -kWant_bool, -Int.not_le, -Int.not_lt, -decide_eq_true_eq, -decide_eq_false_iff_not, -List.getD_eq_getElem?_getD, -List.set_cons_succ, -List.set_cons_zero, -Bool.and_eq_true, -Bool.or_eq_true, -Bool.not_eq_eq_eq_not, -Bool.or_eq_false_iff, -Bool.and_eq_false_imp, -Bool.not_eq_true, -Bool.not_eq_false]
end Go.AM.Ytegibclhopenmaa

set_option linter.unusedVariables false
set_option linter.unusedSimpArgs false
namespace Go.AM.Ytegibclhopenmaa
open Go Go.AM
set_option maxRecDepth 100000
set_option maxHeartbeats 0
attribute [local congr] kif_congr
def T16p (n b : Nat) (H : Heap) (j : Nat) (d : Bool) : St := ⟨[.undef, .ptr 0 1 0 0, .undef, .sl 1 1 n 0 n, .int .i64 b, .ptr 2 1 0 0, .sl 1 3 n 0 n, .int .i64 j, .undef, .undef, .undef, .undef, .undef, .undef, .undef, .undef, .undef, .undef, .undef, .undef, .undef, .undef, .undef, .undef, .undef, .undef, .undef, .undef, .undef, .undef, .undef, .undef, .undef, .undef, .undef, .undef, .undef, .undef, .undef, .undef, .undef, .undef, .undef, .undef, .undef, .undef, .undef, .undef, .undef, .undef, .undef, .undef, .undef, .undef, .undef, .undef, .undef, .undef, .undef, .undef, .undef, .undef, .undef, .undef, .undef, .undef, .undef, .undef, .undef, .undef, .undef, .undef, .undef, .undef, .undef, .undef, .undef, .undef, .undef, .undef, .undef, .undef, .undef, .undef, .undef, .undef, .undef, .undef, .undef, .undef, .undef, .undef, .undef, .undef, .undef, .undef, .undef, .undef, .undef, .undef, .undef, .undef, .undef, .undef, .undef, .undef, .undef, .undef, .undef, .undef, .undef, .undef, .undef, .undef, .undef, .undef, .undef, .undef, .undef, .undef, .undef, .undef, .undef, .undef, .undef, .undef, .undef, .undef, .undef, .undef, .undef, .undef, .undef, .undef, .undef, .undef, .undef, .undef, .undef, .undef, .undef, .undef, .undef, .undef, .undef, .undef, .undef, .undef, .undef, .undef, .undef, .undef, .undef, .undef, .undef, .undef, .undef, .undef, .undef, .undef, .undef, .undef, .undef, .undef, .undef, .undef, .undef, .undef, .undef, .undef, .undef, .undef, .undef, .undef, .undef, .undef, .undef, .undef, .undef, .undef, .undef, .undef, .undef, .undef, .undef, .undef, .undef, .undef, .undef, .undef, .undef, .undef, .undef, .undef, .undef, .undef, .undef, .undef, .undef, .undef, .undef, .undef], H, d⟩
def I16p (B X : Blk) (n b j : Nat) (t : St) : Prop := ∃ ds ks d, BS n ds ∧ BS n ks ∧ t = T16p n b [B, bxD ds, X, bxD ks] j d
theorem g16p (K : Nat) (nm : ByteArray) (w ar st rt bl : V) (h : OkF nm w ar st rt bl) (ps iss : V) (tk tc : Int) (to rs : V) (pi un li : Int) (hx : OkX ps iss tc to rs) (b j : Nat) (hj : j < lenV ps) (t : St) (ht : I16p (bxF nm w ar st rt bl) (bxX ps iss tk tc to rs pi un li) (lenV w) b j t) : Go1 (tidy [1, 3, 4, 5, 6, 7] 0) (I16p (bxF nm w ar st rt bl) (bxX ps iss tk tc to rs pi un li) (lenV w) b (j + 1)) (RtF 2) (execC (callF tbl pu (K + 1)) pu 0 (K + 1) c16_b1 t) := by
  obtain ⟨ds, ks, d, hd, hk, rfl⟩ := ht
  have gw := LS22 h.w
  have ga := LS23 h.ar
  have gs := LS24 h.st
  have gr := LS22 h.rt
  have gb := LS25 h.bl
  have xp := LS22 hx.p
  have xi := LS88 hx.i
  have xt := LS85 hx.t
  have xr := LS22 hx.r
  have hL := len22 hx.p
  simp only [LMAX] at hL
  have hdl := hd.1
  have hkl := hk.1
  have h1 : IntKind.i64.wrap ((j : Int) + 1) = (j : Int) + 1 := wrap64 (by omega) (by omega)
  have h3 : decide (lenV ps ≤ j) = false := by simp; omega
  have h4 : decide (j < lenV ps) = true := by simp; omega
  have hrow := (e22 hx.p hj).1
  have q28 := eq28 K nm w ar st rt bl h (ic ps j 0)
  generalize ic ps j 0 = v at hrow q28
  by_cases c1 : v < 0
  · have c1' : decide (v < 0) = true := by simp; omega
    unfold c16_b1 T16p bxF bxD bxX
    simp (contextual := true) (maxSteps := 10000000) (implicitDefEqProofs := false) [h1, h3, h4, hdl, hkl, hrow, c1', gw.all, ga.all, gs.all, gr.all, gb.all, xp.all, xi.all, xt.all, xr.all, kIadr_LS xp, callV_pu, q28, Go1_kif, Go1_ret, Go1_normal, Go1_exit, RtF_ret, ex_eq, ex_eq2, tidy, kCond_kc, kc_kif, ↓kif_tr, ↓kif_fl, kif_tr, kif_fl, kif_same, ↓kif_not, ↓kif_or, ↓kifg_tr, ↓kifg_fl, ↓kifg_not, ↓kifg_or, ↓kifg_and, kifg_kif, kifB_t, kifB_f, kifB_ft, kifB_tt, kif_bool, kif_int, mergeL, mergeV, mergeS, mergeRs, kSeq_kif, kBlk_kif, kPost_kif, kNext_kif, kFin_kif, kReg_kif, kOps_kif, kO_kif, kG_kif, kDrw_kif, kW_kif, kOpsW_kif, kRet_kif, map_kif, bind_kif, kWant_t, kWant_f, kWant_kif, ↓execI_pick, kPick_bool, kPick_kif, ↓execI_iadr, kIadr_sl, ↓execI_idxs, kIdxs_str, ↓execI_len, ↓rdB_ld, kRd_ptr, kRd_tptr, kRd_tup, kRd_kif, kOpsW_bs, gt0, st0, gt1, st1, gt2, st2, gt3, st3, gt4, st4, gt5, st5, gt6, st6, gt7, st7, gt8, st8, -kWant_bool, -Int.not_le, -Int.not_lt, -decide_eq_true_eq, -decide_eq_false_iff_not, -List.getD_eq_getElem?_getD, -List.set_cons_succ, -List.set_cons_zero, -Bool.and_eq_true, -Bool.or_eq_true, -Bool.not_eq_eq_eq_not, -Bool.or_eq_false_iff, -Bool.and_eq_false_imp, -Bool.not_eq_true, -Bool.not_eq_false]
  have c1' : decide (v < 0) = false := by simp; omega
  by_cases c2 : (lenV w : Int) ≤ v
  · have c2' : decide ((lenV w : Int) ≤ v) = true := by simp; omega
    unfold c16_b1 T16p bxF bxD bxX
    simp (contextual := true) (maxSteps := 10000000) (implicitDefEqProofs := false) [h1, h3, h4, hdl, hkl, hrow, c1', c2', gw.all, ga.all, gs.all, gr.all, gb.all, xp.all, xi.all, xt.all, xr.all, kIadr_LS xp, callV_pu, q28, Go1_kif, Go1_ret, Go1_normal, Go1_exit, RtF_ret, ex_eq, ex_eq2, tidy, kCond_kc, kc_kif, ↓kif_tr, ↓kif_fl, kif_tr, kif_fl, kif_same, ↓kif_not, ↓kif_or, ↓kifg_tr, ↓kifg_fl, ↓kifg_not, ↓kifg_or, ↓kifg_and, kifg_kif, kifB_t, kifB_f, kifB_ft, kifB_tt, kif_bool, kif_int, mergeL, mergeV, mergeS, mergeRs, kSeq_kif, kBlk_kif, kPost_kif, kNext_kif, kFin_kif, kReg_kif, kOps_kif, kO_kif, kG_kif, kDrw_kif, kW_kif, kOpsW_kif, kRet_kif, map_kif, bind_kif, kWant_t, kWant_f, kWant_kif, ↓execI_pick, kPick_bool, kPick_kif, ↓execI_iadr, kIadr_sl, ↓execI_idxs, kIdxs_str, ↓execI_len, ↓rdB_ld, kRd_ptr, kRd_tptr, kRd_tup, kRd_kif, kOpsW_bs, gt0, st0, gt1, st1, gt2, st2, gt3, st3, gt4, st4, gt5, st5, gt6, st6, gt7, st7, gt8, st8, -kWant_bool, -Int.not_le, -Int.not_lt, -decide_eq_true_eq, -decide_eq_false_iff_not, -List.getD_eq_getElem?_getD, -List.set_cons_succ, -List.set_cons_zero, -Bool.and_eq_true, -Bool.or_eq_true, -Bool.not_eq_eq_eq_not, -Bool.or_eq_false_iff, -Bool.and_eq_false_imp, -Bool.not_eq_true, -Bool.not_eq_false]
  have c2' : decide ((lenV w : Int) ≤ v) = false := by simp; omega
  have hg := BS_get hd c1' c2'
  have hg2 := BS_get hk c1' c2'
  have fin : ∀ d, I16p (bxF nm w ar st rt bl) (bxX ps iss tk tc to rs pi un li) (lenV w) b (j + 1) (T16p (lenV w) b [bxF nm w ar st rt bl, bxD (ds.set v.toNat [.bool true]), bxX ps iss tk tc to rs pi un li, bxD (ks.set v.toNat [.bool true])] (j + 1) d) := fun d => ⟨_, _, _, BS_set hd _ _, BS_set hk _ _, rfl⟩
  generalize I16p (bxF nm w ar st rt bl) (bxX ps iss tk tc to rs pi un li) (lenV w) b (j + 1) = II at fin ⊢
  simp only [T16p, bxF, bxD, bxX, Int.natCast_add, Int.natCast_one] at fin
  unfold c16_b1 T16p bxF bxD bxX
  simp (contextual := true) (maxSteps := 10000000) (implicitDefEqProofs := false) [h1, h3, h4, hdl, hkl, hrow, c1', c2', hg, hg2, gw.all, ga.all, gs.all, gr.all, gb.all, xp.all, xi.all, xt.all, xr.all, kIadr_LS xp, callV_pu, q28, freezeH, fin, Go1_kif, Go1_ret, Go1_normal, Go1_exit, RtF_ret, ex_eq, ex_eq2, tidy, kCond_kc, kc_kif, ↓kif_tr, ↓kif_fl, kif_tr, kif_fl, kif_same, ↓kif_not, ↓kif_or, ↓kifg_tr, ↓kifg_fl, ↓kifg_not, ↓kifg_or, ↓kifg_and, kifg_kif, kifB_t, kifB_f, kifB_ft, kifB_tt, kif_bool, kif_int, mergeL, mergeV, mergeS, mergeRs, kSeq_kif, kBlk_kif, kPost_kif, kNext_kif, kFin_kif, kReg_kif, kOps_kif, kO_kif, kG_kif, kDrw_kif, kW_kif, kOpsW_kif, kRet_kif, map_kif, bind_kif, kWant_t, kWant_f, kWant_kif, ↓execI_pick, kPick_bool, kPick_kif, ↓execI_iadr, kIadr_sl, ↓execI_idxs, kIdxs_str, ↓execI_len, ↓rdB_ld, kRd_ptr, kRd_tptr, kRd_tup, kRd_kif, kOpsW_bs, gt0, st0, gt1, st1, gt2, st2, gt3, st3, gt4, st4, gt5, st5, gt6, st6, gt7, st7, gt8, st8, -kWant_bool, -Int.not_le, -Int.not_lt, -decide_eq_true_eq, -decide_eq_false_iff_not, -List.getD_eq_getElem?_getD, -List.set_cons_succ, -List.set_cons_zero, -Bool.and_eq_true, -Bool.or_eq_true, -Bool.not_eq_eq_eq_not, -Bool.or_eq_false_iff, -Bool.and_eq_false_imp, -Bool.not_eq_true, -Bool.not_eq_false]
end Go.AM.Ytegibclhopenmaa
