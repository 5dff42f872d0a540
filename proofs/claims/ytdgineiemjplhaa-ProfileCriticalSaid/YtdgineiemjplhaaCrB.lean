/- diffcons.Positive. -/
import Derived.Test.YtdgineiemjplhaaCrA
set_option linter.unusedVariables false
set_option linter.unusedSimpArgs false
namespace Go.AM.Ytdgineiemjplhaa
open Go Go.AM
set_option maxRecDepth 100000
set_option maxHeartbeats 0
attribute [local congr] kif_congr
/-! The arcs of a cycle. -/
def cA (A : List Arc) (C : List Int) (k : Nat) : Arc := arcAt A (cyAt C k).toNat
def inr (A : List Arc) (C : List Int) (k : Nat) : Prop := 0 ≤ cyAt C k ∧ cyAt C k < A.length
def nx (m k : Nat) : Nat := if k + 1 = m then 0 else k + 1
def frL (A : List Arc) (C : List Int) (k : Nat) : List Int := (List.range k).map fun j => (cA A C j).fr
def ok1 (A : List Arc) (C : List Int) (k : Nat) : Prop := inr A C k ∧ inr A C (nx C.length k) ∧ (cA A C k).to = (cA A C (nx C.length k)).fr ∧ (cA A C k).fr ∉ frL A C k
def wS (A : List Arc) (C : List Int) (ii : Int) : Nat → Int
  | 0 => 0
  | k + 1 => wS A C ii k + wtA (cA A C k) ii
def PosP (A : List Arc) (C : List Int) (ii : Int) : Prop := (∀ k, k < C.length → ok1 A C k) ∧ 0 < wS A C ii C.length
/-- arcs that fit -/
def okA (A : List Arc) (n : Int) : Prop := ∀ i, i < A.length → inN n (arcAt A i) ∧ okW (arcAt A i)
theorem cA_ok {A : List Arc} {n : Int} (h : okA A n) {C : List Int} {k : Nat} (hk : inr A C k) : inN n (cA A C k) ∧ okW (cA A C k) := h _ (by have := hk.1; have := hk.2; omega)
theorem wS_bd {A : List Arc} {n : Int} (h : okA A n) {C : List Int} {ii : Int} (h2 : 0 ≤ ii ∧ ii ≤ 256) : ∀ k, (∀ j, j < k → inr A C j) → -5120 * (k : Int) ≤ wS A C ii k ∧ wS A C ii k ≤ 60 * k
  | 0, _ => by simp [wS]
  | k + 1, hk => by
    have ih := wS_bd h h2 k (fun j hj => hk j (by omega))
    have hw := (cA_ok h (hk k (by omega))).2
    have hb := wt_bd hw h2
    obtain ⟨h3, h4, -, -⟩ := hw
    simp only [wS, wtA]
    omega
/-! A set of ints. -/
def rwB (x : Int) : List V := [.int .i64 x, .bool true]
theorem findB (b : Int) : ∀ (L : List Int) (i : Nat), (b ∉ L ∧ findR (some .i64) (.int .i64 b) (L.map rwB) i = some none) ∨ (b ∈ L ∧ ∃ j, findR (some .i64) (.int .i64 b) (L.map rwB) i = some (some (j, [.bool true])))
  | [], i => .inl ⟨by simp, rfl⟩
  | x :: L, i => by
    by_cases h : b = x
    · subst h
      exact .inr ⟨by simp, i, by simp [findR, rwB, keyEq]⟩
    · have e : findR (some .i64) (.int .i64 b) ((x :: L).map rwB) i = findR (some .i64) (.int .i64 b) (L.map rwB) (i + 1) := by
        rw [List.map_cons]
        simp [findR, rwB, keyEq, h]
      rw [e]
      rcases findB b L (i + 1) with ⟨h1, h2⟩ | ⟨h1, j, h2⟩
      · exact .inl ⟨by simp [h, h1], h2⟩
      · exact .inr ⟨by simp [h1], j, h2⟩
theorem lkB (L : List Int) (b : Int) : lkV (some .i64) false (.bool false) false (.int .i64 b) (L.map rwB) = some (.bool (decide (b ∈ L))) := by
  rcases findB b L 0 with ⟨h1, h2⟩ | ⟨h1, j, h2⟩
  · simp [lkV, h2, h1]
  · simp [lkV, h2, h1, valM]
theorem upB {L : List Int} {b : Int} (h : b ∉ L) : upM (some .i64) (.int .i64 b) [.bool true] (L.map rwB) = some ((L ++ [b]).map rwB) := by
  rcases findB b L 0 with ⟨h1, h2⟩ | ⟨h1, j, h2⟩
  · simp [upM, h2, rwB]
  · exact absurd h1 h
theorem rem_nx {k m : Nat} (hk : k < m) : ((k : Int) + 1).tmod m = (nx m k : Nat) := by
  unfold nx
  have e : ((k : Int) + 1) = ((k + 1 : Nat) : Int) := by omega
  rw [e]
  by_cases h : k + 1 = m
  · rw [if_pos h, h, Int.tmod_self]; rfl
  · rw [if_neg h, ← Int.ofNat_tmod, Nat.mod_eq_of_lt (by omega)]
theorem nx_lt {k m : Nat} (hk : k < m) : nx m k < m := by unfold nx; split <;> omega
def bxS (L : List Int) : Blk := ⟨2, [.bool false, .bool false] :: L.map rwB, 0, false, true⟩
def T21 (va vc : V) (n ii w : Int) (m k : Nat) (L : List Int) (d : Bool) : St := ⟨[.int .i64 n, va, .int .i64 ii, vc, .undef, .undef, .undef, .undef, .int .i64 w, .undef, .mp 0, .undef, .undef, .undef, .undef, .undef, .undef, .undef, .undef, .undef, vc, .int .i64 m, .int .i64 k, .undef, .undef, .undef, .undef, .undef, .undef, .undef, .undef, .undef, .undef, .undef, .undef, .undef, .undef, .undef, .undef, .undef, .undef, .undef, .undef, .undef, .undef, .undef, .undef, .undef, .undef, .undef, .undef, .undef, .undef, .undef, .undef, .undef, .undef, .undef, .undef, .undef, .undef, .undef, .undef, .undef, .undef, .undef, .undef, .undef, .undef, .undef, .undef, .undef, .undef, .undef, .undef, .undef, .undef, .undef, .undef, .undef, .undef, .undef, .undef, .undef, .undef, .undef, .undef, .undef, .undef, .undef, .undef, .undef, .undef, .undef, .undef, .undef, .undef, .undef, .undef, .undef, .undef, .undef], [bxS L], d⟩
def I21 (f : Fl) (b : Bd) (n ii : Int) (k : Nat) (t : St) : Prop := (∀ j, j < k → ok1 f.A b.C j) ∧ ∃ d, t = T21 f.va b.vc n ii (wS f.A b.C ii k) b.C.length k (frL f.A b.C k) d
def R21 (f : Fl) (b : Bd) (r : Ex × St) : Prop := (¬ ∀ j, j < b.C.length → ok1 f.A b.C j) ∧ r.1 = .ret ∧ r.2.fr.getD 8 .undef = .int .i64 0 ∧ r.2.fr.getD 9 .undef = .bool false
theorem R21_ret {f : Fl} {b : Bd} {s : St} : R21 f b (.ret, s) = ((¬ ∀ j, j < b.C.length → ok1 f.A b.C j) ∧ s.fr.getD 8 .undef = .int .i64 0 ∧ s.fr.getD 9 .undef = .bool false) := by simp [R21]
theorem g21 (K : Nat) (f : Fl) (hf : f.Ok) (b : Bd) (hb : b.Ok) (n ii : Int) (hA : f.A.length ≤ 90) (hC : b.C.length ≤ 30) (hn : 0 ≤ n ∧ n ≤ 8192) (hii : 0 ≤ ii ∧ ii ≤ 256) (hok : okA f.A n) (k : Nat) (hk : k < b.C.length) (t : St) (ht : I21 f b n ii k t) :
    Go1 (tidy [0, 1, 2, 3, 8, 10, 20, 21, 22] 0) (I21 f b n ii (k + 1)) (R21 f b) (execC (callF tbl pu (K + 2)) pu 0 (K + 2) c21_b0 t) := by
  obtain ⟨hall, d, rfl⟩ := ht
  have ga := Sl.ls hf.a
  have gc := Sl.ls hb
  have hla := lenA hf
  have hlc := lenC hb
  have hk2 := nx_lt hk
  have hw0 := wS_bd hok hii k (C := b.C) (fun j hj => (hall j hj).1)
  have h1 : IntKind.i64.wrap ((k : Int) + 1) = (k : Int) + 1 := wrap64 (by omega) (by omega)
  have h3 : decide (b.C.length ≤ k) = false := by simp; omega
  have h4 : decide (k < b.C.length) = true := by simp; omega
  have hne : b.C ≠ [] := fun h => by rw [h] at hk; simp at hk
  have h6 : ((k : Int) + 1).tmod b.C.length = (nx b.C.length k : Nat) := rem_nx hk
  have h8 : decide (b.C.length ≤ nx b.C.length k) = false := by simp; omega
  have hr1 := rowC hb hk
  have hr2 := rowC hb hk2
  have bad : ¬ ok1 f.A b.C k → ¬ ∀ j, j < b.C.length → ok1 f.A b.C j := fun hh hall => hh (hall k hk)
  have hfr : frL f.A b.C (k + 1) = frL f.A b.C k ++ [(cA f.A b.C k).fr] := by simp [frL, List.range_succ]
  have hws : wS f.A b.C ii (k + 1) = wS f.A b.C ii k + wtA (cA f.A b.C k) ii := rfl
  have hok1 : ok1 f.A b.C k = (inr f.A b.C k ∧ inr f.A b.C (nx b.C.length k) ∧ (cA f.A b.C k).to = (cA f.A b.C (nx b.C.length k)).fr ∧ (cA f.A b.C k).fr ∉ frL f.A b.C k) := rfl
  have hcA : ∀ k, cA f.A b.C k = arcAt f.A (cyAt b.C k).toNat := fun _ => rfl
  unfold T21 bxS R21
  by_cases a1 : cyAt b.C k < 0
  · have e1 : decide (cyAt b.C k < 0) = true := by simp [a1]
    have hbad := bad (fun h => by have := h.1.1; omega)
    generalize (∀ j, j < b.C.length → ok1 f.A b.C j) = PP at hbad
    unfold c21_b0
    simp (contextual := true) (maxSteps := 10000000) (implicitDefEqProofs := false) [c21_r0, c21_a0, hla, hlc, h1, h3, h4, hne, h6, h8, hr1, hr2, ga.all, gc.all, kIadr_LS ga, kIadr_LS gc, e1, hbad, R21_ret, Go1_kif, Go1_ret, Go1_normal, Go1_exit, RtF_ret, ex_eq, ex_eq2, tidy, kCond_kc, kc_kif, ↓kif_tr, ↓kif_fl, kif_tr, kif_fl, kif_same, ↓kif_not, ↓kif_or, ↓kifg_tr, ↓kifg_fl, ↓kifg_not, ↓kifg_or, ↓kifg_and, kifg_kif, kifB_t, kifB_f, kifB_ft, kifB_tt, kif_bool, kif_int, mergeL, mergeV, mergeS, mergeRs, kSeq_kif, kBlk_kif, kPost_kif, kNext_kif, kFin_kif, kReg_kif, kOps_kif, kO_kif, kG_kif, kDrw_kif, kW_kif, kOpsW_kif, kRet_kif, map_kif, bind_kif, kWant_t, kWant_f, kWant_kif, ↓execI_pick, kPick_bool, kPick_kif, ↓execI_iadr, kIadr_sl, ↓execI_idxs, kIdxs_str, ↓execI_len, ↓rdB_ld, kRd_ptr, kRd_tptr, kRd_tup, kRd_kif, kOpsW_bs, gt0, st0, gt1, st1, gt2, st2, gt3, st3, gt4, st4, gt5, st5, gt6, st6, gt7, st7, gt8, st8, -kWant_bool, -Int.not_le, -Int.not_lt, -decide_eq_true_eq, -decide_eq_false_iff_not, -List.getD_eq_getElem?_getD, -List.set_cons_succ, -List.set_cons_zero, -Bool.and_eq_true, -Bool.or_eq_true, -Bool.not_eq_eq_eq_not, -Bool.or_eq_false_iff, -Bool.and_eq_false_imp, -Bool.not_eq_true, -Bool.not_eq_false]
  have e1 : decide (cyAt b.C k < 0) = false := by simp; omega
  by_cases a2 : (f.A.length : Int) ≤ cyAt b.C k
  · have e2 : decide ((f.A.length : Int) ≤ cyAt b.C k) = true := by simp [a2]
    have hbad := bad (fun h => by have := h.1.2; omega)
    generalize (∀ j, j < b.C.length → ok1 f.A b.C j) = PP at hbad
    unfold c21_b0
    simp (contextual := true) (maxSteps := 10000000) (implicitDefEqProofs := false) [c21_r0, c21_a0, hla, hlc, h1, h3, h4, hne, h6, h8, hr1, hr2, ga.all, gc.all, kIadr_LS ga, kIadr_LS gc, e1, e2, hbad, R21_ret, Go1_kif, Go1_ret, Go1_normal, Go1_exit, RtF_ret, ex_eq, ex_eq2, tidy, kCond_kc, kc_kif, ↓kif_tr, ↓kif_fl, kif_tr, kif_fl, kif_same, ↓kif_not, ↓kif_or, ↓kifg_tr, ↓kifg_fl, ↓kifg_not, ↓kifg_or, ↓kifg_and, kifg_kif, kifB_t, kifB_f, kifB_ft, kifB_tt, kif_bool, kif_int, mergeL, mergeV, mergeS, mergeRs, kSeq_kif, kBlk_kif, kPost_kif, kNext_kif, kFin_kif, kReg_kif, kOps_kif, kO_kif, kG_kif, kDrw_kif, kW_kif, kOpsW_kif, kRet_kif, map_kif, bind_kif, kWant_t, kWant_f, kWant_kif, ↓execI_pick, kPick_bool, kPick_kif, ↓execI_iadr, kIadr_sl, ↓execI_idxs, kIdxs_str, ↓execI_len, ↓rdB_ld, kRd_ptr, kRd_tptr, kRd_tup, kRd_kif, kOpsW_bs, gt0, st0, gt1, st1, gt2, st2, gt3, st3, gt4, st4, gt5, st5, gt6, st6, gt7, st7, gt8, st8, -kWant_bool, -Int.not_le, -Int.not_lt, -decide_eq_true_eq, -decide_eq_false_iff_not, -List.getD_eq_getElem?_getD, -List.set_cons_succ, -List.set_cons_zero, -Bool.and_eq_true, -Bool.or_eq_true, -Bool.not_eq_eq_eq_not, -Bool.or_eq_false_iff, -Bool.and_eq_false_imp, -Bool.not_eq_true, -Bool.not_eq_false]
  have e2 : decide ((f.A.length : Int) ≤ cyAt b.C k) = false := by simp; omega
  have hi1 : inr f.A b.C k := ⟨by omega, by omega⟩
  by_cases a3 : cyAt b.C (nx b.C.length k) < 0
  · have e3 : decide (cyAt b.C (nx b.C.length k) < 0) = true := by simp [a3]
    have hbad := bad (fun h => by have := h.2.1.1; omega)
    generalize (∀ j, j < b.C.length → ok1 f.A b.C j) = PP at hbad
    unfold c21_b0
    simp (contextual := true) (maxSteps := 10000000) (implicitDefEqProofs := false) [c21_r0, c21_a0, hla, hlc, h1, h3, h4, hne, h6, h8, hr1, hr2, ga.all, gc.all, kIadr_LS ga, kIadr_LS gc, e1, e2, e3, hbad, R21_ret, Go1_kif, Go1_ret, Go1_normal, Go1_exit, RtF_ret, ex_eq, ex_eq2, tidy, kCond_kc, kc_kif, ↓kif_tr, ↓kif_fl, kif_tr, kif_fl, kif_same, ↓kif_not, ↓kif_or, ↓kifg_tr, ↓kifg_fl, ↓kifg_not, ↓kifg_or, ↓kifg_and, kifg_kif, kifB_t, kifB_f, kifB_ft, kifB_tt, kif_bool, kif_int, mergeL, mergeV, mergeS, mergeRs, kSeq_kif, kBlk_kif, kPost_kif, kNext_kif, kFin_kif, kReg_kif, kOps_kif, kO_kif, kG_kif, kDrw_kif, kW_kif, kOpsW_kif, kRet_kif, map_kif, bind_kif, kWant_t, kWant_f, kWant_kif, ↓execI_pick, kPick_bool, kPick_kif, ↓execI_iadr, kIadr_sl, ↓execI_idxs, kIdxs_str, ↓execI_len, ↓rdB_ld, kRd_ptr, kRd_tptr, kRd_tup, kRd_kif, kOpsW_bs, gt0, st0, gt1, st1, gt2, st2, gt3, st3, gt4, st4, gt5, st5, gt6, st6, gt7, st7, gt8, st8, -kWant_bool, -Int.not_le, -Int.not_lt, -decide_eq_true_eq, -decide_eq_false_iff_not, -List.getD_eq_getElem?_getD, -List.set_cons_succ, -List.set_cons_zero, -Bool.and_eq_true, -Bool.or_eq_true, -Bool.not_eq_eq_eq_not, -Bool.or_eq_false_iff, -Bool.and_eq_false_imp, -Bool.not_eq_true, -Bool.not_eq_false]
  have e3 : decide (cyAt b.C (nx b.C.length k) < 0) = false := by simp; omega
  by_cases a4 : (f.A.length : Int) ≤ cyAt b.C (nx b.C.length k)
  · have e4 : decide ((f.A.length : Int) ≤ cyAt b.C (nx b.C.length k)) = true := by simp [a4]
    have hbad := bad (fun h => by have := h.2.1.2; omega)
    generalize (∀ j, j < b.C.length → ok1 f.A b.C j) = PP at hbad
    unfold c21_b0
    simp (contextual := true) (maxSteps := 10000000) (implicitDefEqProofs := false) [c21_r0, c21_a0, hla, hlc, h1, h3, h4, hne, h6, h8, hr1, hr2, ga.all, gc.all, kIadr_LS ga, kIadr_LS gc, e1, e2, e3, e4, hbad, R21_ret, Go1_kif, Go1_ret, Go1_normal, Go1_exit, RtF_ret, ex_eq, ex_eq2, tidy, kCond_kc, kc_kif, ↓kif_tr, ↓kif_fl, kif_tr, kif_fl, kif_same, ↓kif_not, ↓kif_or, ↓kifg_tr, ↓kifg_fl, ↓kifg_not, ↓kifg_or, ↓kifg_and, kifg_kif, kifB_t, kifB_f, kifB_ft, kifB_tt, kif_bool, kif_int, mergeL, mergeV, mergeS, mergeRs, kSeq_kif, kBlk_kif, kPost_kif, kNext_kif, kFin_kif, kReg_kif, kOps_kif, kO_kif, kG_kif, kDrw_kif, kW_kif, kOpsW_kif, kRet_kif, map_kif, bind_kif, kWant_t, kWant_f, kWant_kif, ↓execI_pick, kPick_bool, kPick_kif, ↓execI_iadr, kIadr_sl, ↓execI_idxs, kIdxs_str, ↓execI_len, ↓rdB_ld, kRd_ptr, kRd_tptr, kRd_tup, kRd_kif, kOpsW_bs, gt0, st0, gt1, st1, gt2, st2, gt3, st3, gt4, st4, gt5, st5, gt6, st6, gt7, st7, gt8, st8, -kWant_bool, -Int.not_le, -Int.not_lt, -decide_eq_true_eq, -decide_eq_false_iff_not, -List.getD_eq_getElem?_getD, -List.set_cons_succ, -List.set_cons_zero, -Bool.and_eq_true, -Bool.or_eq_true, -Bool.not_eq_eq_eq_not, -Bool.or_eq_false_iff, -Bool.and_eq_false_imp, -Bool.not_eq_true, -Bool.not_eq_false]
  have e4 : decide ((f.A.length : Int) ≤ cyAt b.C (nx b.C.length k)) = false := by simp; omega
  have hi2 : inr f.A b.C (nx b.C.length k) := ⟨by omega, by omega⟩
  obtain ⟨hin, how⟩ := cA_ok hok hi1
  rw [hcA] at hin how
  have q33 := t33 (K + 1) n _ hin
  have q34 := t34 K _ ii how hii
  have hwb := wt_bd how hii
  have hra1 := rowA hf (i := (cyAt b.C k).toNat) (by omega)
  have hra2 := rowA hf (i := (cyAt b.C (nx b.C.length k)).toNat) (by omega)
  have hlk := lkB (frL f.A b.C k) (arcAt f.A (cyAt b.C k).toNat).fr
  rw [hcA, hcA] at hok1
  rw [hcA] at hfr hws
  unfold I21 T21
  rw [hfr, hws]
  simp only [wtA] at q34 ⊢
  obtain ⟨o3, o4, o5, o6⟩ := how
  generalize arcAt f.A (cyAt b.C k).toNat = x at *
  generalize arcAt f.A (cyAt b.C (nx b.C.length k)).toNat = y at *
  by_cases a5 : x.to = y.fr
  case neg =>
    have e5 : decide (x.to = y.fr) = false := by simp [a5]
    have hbad := bad (fun h => by rw [hok1] at h; exact a5 h.2.2.1)
    generalize (∀ j, j < b.C.length → ok1 f.A b.C j) = PP at hbad
    unfold c21_b0
    simp (contextual := true) (maxSteps := 10000000) (implicitDefEqProofs := false) [c21_r0, c21_a0, hla, hlc, h1, h3, h4, hne, h6, h8, hr1, hr2, ga.all, gc.all, kIadr_LS ga, kIadr_LS gc, e1, e2, e3, e4, e5, hra1, hra2, callV_pu, q33, hbad, R21_ret, Go1_kif, Go1_ret, Go1_normal, Go1_exit, RtF_ret, ex_eq, ex_eq2, tidy, kCond_kc, kc_kif, ↓kif_tr, ↓kif_fl, kif_tr, kif_fl, kif_same, ↓kif_not, ↓kif_or, ↓kifg_tr, ↓kifg_fl, ↓kifg_not, ↓kifg_or, ↓kifg_and, kifg_kif, kifB_t, kifB_f, kifB_ft, kifB_tt, kif_bool, kif_int, mergeL, mergeV, mergeS, mergeRs, kSeq_kif, kBlk_kif, kPost_kif, kNext_kif, kFin_kif, kReg_kif, kOps_kif, kO_kif, kG_kif, kDrw_kif, kW_kif, kOpsW_kif, kRet_kif, map_kif, bind_kif, kWant_t, kWant_f, kWant_kif, ↓execI_pick, kPick_bool, kPick_kif, ↓execI_iadr, kIadr_sl, ↓execI_idxs, kIdxs_str, ↓execI_len, ↓rdB_ld, kRd_ptr, kRd_tptr, kRd_tup, kRd_kif, kOpsW_bs, gt0, st0, gt1, st1, gt2, st2, gt3, st3, gt4, st4, gt5, st5, gt6, st6, gt7, st7, gt8, st8, -kWant_bool, -Int.not_le, -Int.not_lt, -decide_eq_true_eq, -decide_eq_false_iff_not, -List.getD_eq_getElem?_getD, -List.set_cons_succ, -List.set_cons_zero, -Bool.and_eq_true, -Bool.or_eq_true, -Bool.not_eq_eq_eq_not, -Bool.or_eq_false_iff, -Bool.and_eq_false_imp, -Bool.not_eq_true, -Bool.not_eq_false]
  have e5 : decide (x.to = y.fr) = true := by simp [a5]
  by_cases a6 : x.fr ∈ frL f.A b.C k
  · have hbad := bad (fun h => by rw [hok1] at h; exact h.2.2.2 a6)
    rw [decide_eq_true a6] at hlk
    generalize (∀ j, j < b.C.length → ok1 f.A b.C j) = PP at hbad
    generalize (frL f.A b.C k).map rwB = es at *
    unfold c21_b0
    simp (contextual := true) (maxSteps := 10000000) (implicitDefEqProofs := false) [c21_r0, c21_a0, hla, hlc, h1, h3, h4, hne, h6, h8, hr1, hr2, ga.all, gc.all, kIadr_LS ga, kIadr_LS gc, e1, e2, e3, e4, e5, hra1, hra2, callV_pu, q33, hlk, keyIs, execI.eq_32, hbad, R21_ret, Go1_kif, Go1_ret, Go1_normal, Go1_exit, RtF_ret, ex_eq, ex_eq2, tidy, kCond_kc, kc_kif, ↓kif_tr, ↓kif_fl, kif_tr, kif_fl, kif_same, ↓kif_not, ↓kif_or, ↓kifg_tr, ↓kifg_fl, ↓kifg_not, ↓kifg_or, ↓kifg_and, kifg_kif, kifB_t, kifB_f, kifB_ft, kifB_tt, kif_bool, kif_int, mergeL, mergeV, mergeS, mergeRs, kSeq_kif, kBlk_kif, kPost_kif, kNext_kif, kFin_kif, kReg_kif, kOps_kif, kO_kif, kG_kif, kDrw_kif, kW_kif, kOpsW_kif, kRet_kif, map_kif, bind_kif, kWant_t, kWant_f, kWant_kif, ↓execI_pick, kPick_bool, kPick_kif, ↓execI_iadr, kIadr_sl, ↓execI_idxs, kIdxs_str, ↓execI_len, ↓rdB_ld, kRd_ptr, kRd_tptr, kRd_tup, kRd_kif, kOpsW_bs, gt0, st0, gt1, st1, gt2, st2, gt3, st3, gt4, st4, gt5, st5, gt6, st6, gt7, st7, gt8, st8, -kWant_bool, -Int.not_le, -Int.not_lt, -decide_eq_true_eq, -decide_eq_false_iff_not, -List.getD_eq_getElem?_getD, -List.set_cons_succ, -List.set_cons_zero, -Bool.and_eq_true, -Bool.or_eq_true, -Bool.not_eq_eq_eq_not, -Bool.or_eq_false_iff, -Bool.and_eq_false_imp, -Bool.not_eq_true, -Bool.not_eq_false]
  rw [decide_eq_false a6] at hlk
  have hup := upB a6
  have hgood : ∀ j, j < k + 1 → ok1 f.A b.C j := fun j hj => by
    rcases Nat.lt_or_eq_of_le (Nat.le_of_lt_succ hj) with h | rfl
    · exact hall j h
    · rw [hok1]; exact ⟨hi1, hi2, a5, a6⟩
  have w1 : IntKind.i64.wrap (wS f.A b.C ii k + (x.lat - ii * x.di)) = wS f.A b.C ii k + (x.lat - ii * x.di) := wrap64 (by omega) (by omega)
  generalize wS f.A b.C ii k = w at *
  have fin : ∀ d, (fun t => (∀ j, j < k + 1 → ok1 f.A b.C j) ∧ ∃ d, t = (⟨[.int .i64 n, f.va, .int .i64 ii, b.vc, .undef, .undef, .undef, .undef, .int .i64 (w + (x.lat - ii * x.di)), .undef, .mp 0, .undef, .undef, .undef, .undef, .undef, .undef, .undef, .undef, .undef, b.vc, .int .i64 b.C.length, .int .i64 ((k + 1 : Nat) : Int), .undef, .undef, .undef, .undef, .undef, .undef, .undef, .undef, .undef, .undef, .undef, .undef, .undef, .undef, .undef, .undef, .undef, .undef, .undef, .undef, .undef, .undef, .undef, .undef, .undef, .undef, .undef, .undef, .undef, .undef, .undef, .undef, .undef, .undef, .undef, .undef, .undef, .undef, .undef, .undef, .undef, .undef, .undef, .undef, .undef, .undef, .undef, .undef, .undef, .undef, .undef, .undef, .undef, .undef, .undef, .undef, .undef, .undef, .undef, .undef, .undef, .undef, .undef, .undef, .undef, .undef, .undef, .undef, .undef, .undef, .undef, .undef, .undef, .undef, .undef, .undef, .undef, .undef, .undef], [bxS (frL f.A b.C k ++ [x.fr])], d⟩ : St)) ⟨[.int .i64 n, f.va, .int .i64 ii, b.vc, .undef, .undef, .undef, .undef, .int .i64 (w + (x.lat - ii * x.di)), .undef, .mp 0, .undef, .undef, .undef, .undef, .undef, .undef, .undef, .undef, .undef, b.vc, .int .i64 b.C.length, .int .i64 ((k + 1 : Nat) : Int), .undef, .undef, .undef, .undef, .undef, .undef, .undef, .undef, .undef, .undef, .undef, .undef, .undef, .undef, .undef, .undef, .undef, .undef, .undef, .undef, .undef, .undef, .undef, .undef, .undef, .undef, .undef, .undef, .undef, .undef, .undef, .undef, .undef, .undef, .undef, .undef, .undef, .undef, .undef, .undef, .undef, .undef, .undef, .undef, .undef, .undef, .undef, .undef, .undef, .undef, .undef, .undef, .undef, .undef, .undef, .undef, .undef, .undef, .undef, .undef, .undef, .undef, .undef, .undef, .undef, .undef, .undef, .undef, .undef, .undef, .undef, .undef, .undef, .undef, .undef, .undef, .undef, .undef, .undef], [bxS (frL f.A b.C k ++ [x.fr])], d⟩ := fun d => ⟨hgood, d, rfl⟩
  generalize (fun t => (∀ j, j < k + 1 → ok1 f.A b.C j) ∧ ∃ d, t = (⟨[.int .i64 n, f.va, .int .i64 ii, b.vc, .undef, .undef, .undef, .undef, .int .i64 (w + (x.lat - ii * x.di)), .undef, .mp 0, .undef, .undef, .undef, .undef, .undef, .undef, .undef, .undef, .undef, b.vc, .int .i64 b.C.length, .int .i64 ((k + 1 : Nat) : Int), .undef, .undef, .undef, .undef, .undef, .undef, .undef, .undef, .undef, .undef, .undef, .undef, .undef, .undef, .undef, .undef, .undef, .undef, .undef, .undef, .undef, .undef, .undef, .undef, .undef, .undef, .undef, .undef, .undef, .undef, .undef, .undef, .undef, .undef, .undef, .undef, .undef, .undef, .undef, .undef, .undef, .undef, .undef, .undef, .undef, .undef, .undef, .undef, .undef, .undef, .undef, .undef, .undef, .undef, .undef, .undef, .undef, .undef, .undef, .undef, .undef, .undef, .undef, .undef, .undef, .undef, .undef, .undef, .undef, .undef, .undef, .undef, .undef, .undef, .undef, .undef, .undef, .undef, .undef], [bxS (frL f.A b.C k ++ [x.fr])], d⟩ : St)) = II at fin ⊢
  simp only [bxS, Int.natCast_add, Int.natCast_one] at fin
  generalize (frL f.A b.C k ++ [x.fr]).map rwB = es' at *
  generalize (frL f.A b.C k).map rwB = es at *
  unfold c21_b0
  simp (contextual := true) (maxSteps := 10000000) (implicitDefEqProofs := false) [c21_r0, c21_a0, hla, hlc, h1, h3, h4, hne, h6, h8, hr1, hr2, ga.all, gc.all, kIadr_LS ga, kIadr_LS gc, e1, e2, e3, e4, e5, hra1, hra2, callV_pu, q33, q34, hlk, hup, w1, celM, keyIs, execI.eq_32, execI.eq_33, freezeH, fin, Go1_kif, Go1_ret, Go1_normal, Go1_exit, RtF_ret, ex_eq, ex_eq2, tidy, kCond_kc, kc_kif, ↓kif_tr, ↓kif_fl, kif_tr, kif_fl, kif_same, ↓kif_not, ↓kif_or, ↓kifg_tr, ↓kifg_fl, ↓kifg_not, ↓kifg_or, ↓kifg_and, kifg_kif, kifB_t, kifB_f, kifB_ft, kifB_tt, kif_bool, kif_int, mergeL, mergeV, mergeS, mergeRs, kSeq_kif, kBlk_kif, kPost_kif, kNext_kif, kFin_kif, kReg_kif, kOps_kif, kO_kif, kG_kif, kDrw_kif, kW_kif, kOpsW_kif, kRet_kif, map_kif, bind_kif, kWant_t, kWant_f, kWant_kif, ↓execI_pick, kPick_bool, kPick_kif, ↓execI_iadr, kIadr_sl, ↓execI_idxs, kIdxs_str, ↓execI_len, ↓rdB_ld, kRd_ptr, kRd_tptr, kRd_tup, kRd_kif, kOpsW_bs, gt0, st0, gt1, st1, gt2, st2, gt3, st3, gt4, st4, gt5, st5, gt6, st6, gt7, st7, gt8, st8, -kWant_bool, -Int.not_le, -Int.not_lt, -decide_eq_true_eq, -decide_eq_false_iff_not, -List.getD_eq_getElem?_getD, -List.set_cons_succ, -List.set_cons_zero, -Bool.and_eq_true, -Bool.or_eq_true, -Bool.not_eq_eq_eq_not, -Bool.or_eq_false_iff, -Bool.and_eq_false_imp, -Bool.not_eq_true, -Bool.not_eq_false]
end Go.AM.Ytdgineiemjplhaa
