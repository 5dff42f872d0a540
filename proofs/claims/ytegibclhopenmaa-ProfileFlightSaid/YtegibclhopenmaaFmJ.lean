/- profile.Flight and jacquardref56.Flight: the rounds. -/
import Derived.Test.YtegibclhopenmaaFmH
set_option linter.unusedVariables false
set_option linter.unusedSimpArgs false
namespace Go.AM.Ytegibclhopenmaa
open Go Go.AM
set_option maxRecDepth 100000
set_option maxHeartbeats 0
attribute [local congr] kif_congr
def rwP (x : Int × Int) : List V := [.int .i64 x.1, .int .i64 x.2]
def bxP (P : List (Int × Int)) : Blk := ⟨2, P.map rwP, 0, false, true⟩
/-- the visits that are under way, of the first ones -/
def fl (bl sc pa : V) (c : Int) : Nat → List (Int × Int)
  | 0 => []
  | k + 1 => fl bl sc pa c k ++ (if iss bl sc pa k ≤ c ∧ c - iss bl sc pa k < ic sc (ic pa k 0).toNat 1 then [((k : Int), c - iss bl sc pa k)] else [])
theorem fl_le (bl sc pa : V) (c : Int) (k : Nat) : (fl bl sc pa c k).length ≤ k := by
  induction k with
  | zero => simp [fl]
  | succ k ih =>
    simp only [fl, List.length_append]
    split <;> simp <;> omega
theorem iss_bd {bl sc pa : V} (hg : Good bl sc pa) (ho : ∀ j, j < lenV sc → okS sc j) : ∀ k, k < lenV pa → 1 ≤ iss bl sc pa k ∧ iss bl sc pa k ≤ 1 + 1000 * k
  | 0, _ => by simp [iss]
  | k + 1, h => by
    have ih := iss_bd hg ho k (by omega)
    obtain ⟨g1, g2, g3, g4, g5⟩ := hg
    have hk := g5 k (by omega)
    obtain ⟨o1, o2, o3, o4⟩ := ho (ic pa k 0).toNat (by have := hk.1; have := hk.2.1; omega)
    simp only [iss]
    split <;> omega
def T8e (sc pa : V) (c : Int) (k : Nat) (H : Heap) (d : Bool) : St := ⟨[.undef, sc, pa, .int .i64 c, .undef, .undef, .undef, .undef, .undef, .undef, .undef, .undef, .nils, .undef, .undef, .undef, .undef, .undef, .undef, .undef, .undef, .undef, .undef, .undef, .undef, .sl 1 0 (lenV pa) 0 (lenV pa), .int .i64 (lenV pa), .int .i64 k, .undef, .undef, .undef, .undef, .undef, .undef, .undef, .undef, .undef, .undef, .undef, .undef, .undef, .undef, .undef, .undef, .undef, .undef, .undef, .undef, .undef, .undef, .undef, .undef, .undef, .undef, .undef, .undef, .undef, .undef, .undef], H, d⟩
def T8n (sc pa : V) (l : Nat) (c : Int) (k : Nat) (H : Heap) (d : Bool) : St := ⟨[.undef, sc, pa, .int .i64 c, .undef, .undef, .undef, .undef, .undef, .undef, .undef, .undef, .sl 2 0 l 0 l, .undef, .undef, .undef, .undef, .undef, .undef, .undef, .undef, .undef, .undef, .undef, .undef, .sl 1 1 (lenV pa) 0 (lenV pa), .int .i64 (lenV pa), .int .i64 k, .undef, .undef, .undef, .undef, .undef, .undef, .undef, .undef, .undef, .undef, .undef, .undef, .undef, .undef, .undef, .undef, .undef, .undef, .undef, .undef, .undef, .undef, .undef, .undef, .undef, .undef, .undef, .undef, .undef, .undef, .undef], H, d⟩
def J8 (bl sc pa : V) (c : Int) (P : List (Int × Int)) (k : Nat) (t : St) : Prop := ∃ d, (P = [] ∧ t = T8e sc pa c k [bxO (issL bl sc pa)] d) ∨ (0 < P.length ∧ t = T8n sc pa P.length c k [bxP P, bxO (issL bl sc pa)] d)
def I8 (bl sc pa : V) (c : Int) (k : Nat) (t : St) : Prop := J8 bl sc pa c (fl bl sc pa c k) k t
theorem issL_get {bl sc pa : V} {k : Nat} (h : k < lenV pa) : ((issL bl sc pa).map ivs)[k]? = some [.int .i64 (iss bl sc pa k)] := by
  simp [issL, ivs, h]
theorem issL_len {bl sc pa : V} : ((issL bl sc pa).map ivs).length = lenV pa := by simp [issL]
theorem g8 (call : CallT) (K : Nat) (bl sc pa : V) (hs : S28 [sc]) (hp : S22 [pa]) (hn : lenV pa ≤ 60) (ho : ∀ j, j < lenV sc → okS sc j) (hg : Good bl sc pa) (c : Int) (hc : wfI c) (k : Nat) (hk : k < lenV pa) (t : St) (ht : I8 bl sc pa c k t) :
    Go1 (tidy [1, 2, 3, 12, 25, 26, 27] 0) (I8 bl sc pa c (k + 1)) (fun _ => False) (execC call pu 0 K c8_b0 t) := by
  obtain ⟨d, ht⟩ := ht
  have gc := LS28 hs
  have gp := LS22 hp
  have hgk := hg.2.2.2.2 k hk
  have hsc := hg.1
  have h1 : IntKind.i64.wrap ((k : Int) + 1) = (k : Int) + 1 := wrap64 (by omega) (by omega)
  have h3 : decide (lenV pa ≤ k) = false := by simp; omega
  have h4 : decide (k < lenV pa) = true := by simp; omega
  have hrow := (e22 hp hk).1
  have c1 : decide (ic pa k 0 < 0) = false := by have := hgk.1; simp; omega
  have c2 : decide ((lenV sc : Int) ≤ ic pa k 0) = false := by have := hgk.2.1; simp; omega
  have hr := sc_row hs c1 c2
  have hget := issL_get (bl := bl) (sc := sc) hk
  have hlen := issL_len (bl := bl) (sc := sc) (pa := pa)
  have hbd := iss_bd hg ho k hk
  have hfl := fl_le bl sc pa c k
  have hF : fl bl sc pa c (k + 1) = fl bl sc pa c k ++ (if iss bl sc pa k ≤ c ∧ c - iss bl sc pa k < ic sc (ic pa k 0).toNat 1 then [((k : Int), c - iss bl sc pa k)] else []) := rfl
  unfold I8
  rw [hF]
  generalize fl bl sc pa c k = P at *
  generalize iss bl sc pa k = at' at *
  generalize hdep : ic sc (ic pa k 0).toNat 1 = dep at *
  by_cases a1 : at' ≤ c
  case neg =>
    have e1 : decide (at' ≤ c) = false := by simp; omega
    rw [if_neg (fun hh => a1 hh.1)]
    rcases ht with ⟨rfl, rfl⟩ | ⟨hl0, rfl⟩
    · have fin : ∀ d, J8 bl sc pa c ([] ++ []) (k + 1) (T8e sc pa c (k + 1) [bxO (issL bl sc pa)] d) := fun d => ⟨d, .inl ⟨rfl, rfl⟩⟩
      generalize J8 bl sc pa c ([] ++ []) (k + 1) = II at fin ⊢
      simp only [T8e, bxO, Int.natCast_add, Int.natCast_one] at fin
      unfold c8_b0 T8e bxO
      simp (contextual := true) (maxSteps := 10000000) (implicitDefEqProofs := false) [h1, h3, h4, c1, c2, hrow, hr, hdep, hlen, hget, -getElem?_pos, List.getElem?_cons_zero, List.getElem?_cons_succ, -List.getElem?_map, gc.cell, refs_tree gc.tree, ren_tree gc.tree, kLen_lst gc.lst, snap1_tree gc.tree, snap_tree gc.tree, gp.cell, refs_tree gp.tree, ren_tree gp.tree, kLen_lst gp.lst, snap1_tree gp.tree, snap_tree gp.tree, kIadr_LS gc, kIadr_LS gp, e1, appV, elemsOf, roomB, freezeH, fin, Go1_kif, Go1_ret, Go1_normal, Go1_exit, RtF_ret, ex_eq, ex_eq2, tidy, kCond_kc, kc_kif, ↓kif_tr, ↓kif_fl, kif_tr, kif_fl, kif_same, ↓kif_not, ↓kif_or, ↓kifg_tr, ↓kifg_fl, ↓kifg_not, ↓kifg_or, ↓kifg_and, kifg_kif, kifB_t, kifB_f, kifB_ft, kifB_tt, kif_bool, kif_int, mergeL, mergeV, mergeS, mergeRs, kSeq_kif, kBlk_kif, kPost_kif, kNext_kif, kFin_kif, kReg_kif, kOps_kif, kO_kif, kG_kif, kDrw_kif, kW_kif, kOpsW_kif, kRet_kif, map_kif, bind_kif, kWant_t, kWant_f, kWant_kif, ↓execI_pick, kPick_bool, kPick_kif, ↓execI_iadr, kIadr_sl, ↓execI_idxs, kIdxs_str, ↓execI_len, ↓rdB_ld, kRd_ptr, kRd_tptr, kRd_tup, kRd_kif, kOpsW_bs, gt0, st0, gt1, st1, gt2, st2, gt3, st3, gt4, st4, gt5, st5, gt6, st6, gt7, st7, gt8, st8, -kWant_bool, -Int.not_le, -Int.not_lt, -decide_eq_true_eq, -decide_eq_false_iff_not, -List.getD_eq_getElem?_getD, -List.set_cons_succ, -List.set_cons_zero, -Bool.and_eq_true, -Bool.or_eq_true, -Bool.not_eq_eq_eq_not, -Bool.or_eq_false_iff, -Bool.and_eq_false_imp, -Bool.not_eq_true, -Bool.not_eq_false]
    · have hl : (P.map rwP).length = P.length := by simp
      have fin : ∀ d, J8 bl sc pa c (P ++ []) (k + 1) (T8n sc pa P.length c (k + 1) [bxP P, bxO (issL bl sc pa)] d) := fun d => ⟨d, .inr ⟨by simpa using hl0, by simp⟩⟩
      generalize J8 bl sc pa c (P ++ []) (k + 1) = II at fin ⊢
      simp only [T8n, bxP, bxO, Int.natCast_add, Int.natCast_one] at fin
      unfold c8_b0 T8n bxO bxP
      generalize P.map rwP = os at *
      simp (contextual := true) (maxSteps := 10000000) (implicitDefEqProofs := false) [h1, h3, h4, c1, c2, hrow, hr, hdep, hlen, hget, -getElem?_pos, List.getElem?_cons_zero, List.getElem?_cons_succ, -List.getElem?_map, gc.cell, refs_tree gc.tree, ren_tree gc.tree, kLen_lst gc.lst, snap1_tree gc.tree, snap_tree gc.tree, gp.cell, refs_tree gp.tree, ren_tree gp.tree, kLen_lst gp.lst, snap1_tree gp.tree, snap_tree gp.tree, kIadr_LS gc, kIadr_LS gp, e1, hl, appV, elemsOf, roomB, freezeH, fin, Go1_kif, Go1_ret, Go1_normal, Go1_exit, RtF_ret, ex_eq, ex_eq2, tidy, kCond_kc, kc_kif, ↓kif_tr, ↓kif_fl, kif_tr, kif_fl, kif_same, ↓kif_not, ↓kif_or, ↓kifg_tr, ↓kifg_fl, ↓kifg_not, ↓kifg_or, ↓kifg_and, kifg_kif, kifB_t, kifB_f, kifB_ft, kifB_tt, kif_bool, kif_int, mergeL, mergeV, mergeS, mergeRs, kSeq_kif, kBlk_kif, kPost_kif, kNext_kif, kFin_kif, kReg_kif, kOps_kif, kO_kif, kG_kif, kDrw_kif, kW_kif, kOpsW_kif, kRet_kif, map_kif, bind_kif, kWant_t, kWant_f, kWant_kif, ↓execI_pick, kPick_bool, kPick_kif, ↓execI_iadr, kIadr_sl, ↓execI_idxs, kIdxs_str, ↓execI_len, ↓rdB_ld, kRd_ptr, kRd_tptr, kRd_tup, kRd_kif, kOpsW_bs, gt0, st0, gt1, st1, gt2, st2, gt3, st3, gt4, st4, gt5, st5, gt6, st6, gt7, st7, gt8, st8, -kWant_bool, -Int.not_le, -Int.not_lt, -decide_eq_true_eq, -decide_eq_false_iff_not, -List.getD_eq_getElem?_getD, -List.set_cons_succ, -List.set_cons_zero, -Bool.and_eq_true, -Bool.or_eq_true, -Bool.not_eq_eq_eq_not, -Bool.or_eq_false_iff, -Bool.and_eq_false_imp, -Bool.not_eq_true, -Bool.not_eq_false]
  have e1 : decide (at' ≤ c) = true := by simp; omega
  have w0 : IntKind.i64.wrap (c - at') = c - at' := wrap64 (by unfold wfI at hc; omega) (by unfold wfI at hc; omega)
  by_cases a2 : c - at' < dep
  case neg =>
    have e2 : decide (c - at' < dep) = false := by simp; omega
    rw [if_neg (fun hh => a2 hh.2)]
    rcases ht with ⟨rfl, rfl⟩ | ⟨hl0, rfl⟩
    · have fin : ∀ d, J8 bl sc pa c ([] ++ []) (k + 1) (T8e sc pa c (k + 1) [bxO (issL bl sc pa)] d) := fun d => ⟨d, .inl ⟨rfl, rfl⟩⟩
      generalize J8 bl sc pa c ([] ++ []) (k + 1) = II at fin ⊢
      simp only [T8e, bxO, Int.natCast_add, Int.natCast_one] at fin
      unfold c8_b0 T8e bxO
      simp (contextual := true) (maxSteps := 10000000) (implicitDefEqProofs := false) [h1, h3, h4, c1, c2, hrow, hr, hdep, hlen, hget, -getElem?_pos, List.getElem?_cons_zero, List.getElem?_cons_succ, -List.getElem?_map, gc.cell, refs_tree gc.tree, ren_tree gc.tree, kLen_lst gc.lst, snap1_tree gc.tree, snap_tree gc.tree, gp.cell, refs_tree gp.tree, ren_tree gp.tree, kLen_lst gp.lst, snap1_tree gp.tree, snap_tree gp.tree, kIadr_LS gc, kIadr_LS gp, e1, w0, e2, appV, elemsOf, roomB, freezeH, fin, Go1_kif, Go1_ret, Go1_normal, Go1_exit, RtF_ret, ex_eq, ex_eq2, tidy, kCond_kc, kc_kif, ↓kif_tr, ↓kif_fl, kif_tr, kif_fl, kif_same, ↓kif_not, ↓kif_or, ↓kifg_tr, ↓kifg_fl, ↓kifg_not, ↓kifg_or, ↓kifg_and, kifg_kif, kifB_t, kifB_f, kifB_ft, kifB_tt, kif_bool, kif_int, mergeL, mergeV, mergeS, mergeRs, kSeq_kif, kBlk_kif, kPost_kif, kNext_kif, kFin_kif, kReg_kif, kOps_kif, kO_kif, kG_kif, kDrw_kif, kW_kif, kOpsW_kif, kRet_kif, map_kif, bind_kif, kWant_t, kWant_f, kWant_kif, ↓execI_pick, kPick_bool, kPick_kif, ↓execI_iadr, kIadr_sl, ↓execI_idxs, kIdxs_str, ↓execI_len, ↓rdB_ld, kRd_ptr, kRd_tptr, kRd_tup, kRd_kif, kOpsW_bs, gt0, st0, gt1, st1, gt2, st2, gt3, st3, gt4, st4, gt5, st5, gt6, st6, gt7, st7, gt8, st8, -kWant_bool, -Int.not_le, -Int.not_lt, -decide_eq_true_eq, -decide_eq_false_iff_not, -List.getD_eq_getElem?_getD, -List.set_cons_succ, -List.set_cons_zero, -Bool.and_eq_true, -Bool.or_eq_true, -Bool.not_eq_eq_eq_not, -Bool.or_eq_false_iff, -Bool.and_eq_false_imp, -Bool.not_eq_true, -Bool.not_eq_false]
    · have hl : (P.map rwP).length = P.length := by simp
      have fin : ∀ d, J8 bl sc pa c (P ++ []) (k + 1) (T8n sc pa P.length c (k + 1) [bxP P, bxO (issL bl sc pa)] d) := fun d => ⟨d, .inr ⟨by simpa using hl0, by simp⟩⟩
      generalize J8 bl sc pa c (P ++ []) (k + 1) = II at fin ⊢
      simp only [T8n, bxP, bxO, Int.natCast_add, Int.natCast_one] at fin
      unfold c8_b0 T8n bxO bxP
      generalize P.map rwP = os at *
      simp (contextual := true) (maxSteps := 10000000) (implicitDefEqProofs := false) [h1, h3, h4, c1, c2, hrow, hr, hdep, hlen, hget, -getElem?_pos, List.getElem?_cons_zero, List.getElem?_cons_succ, -List.getElem?_map, gc.cell, refs_tree gc.tree, ren_tree gc.tree, kLen_lst gc.lst, snap1_tree gc.tree, snap_tree gc.tree, gp.cell, refs_tree gp.tree, ren_tree gp.tree, kLen_lst gp.lst, snap1_tree gp.tree, snap_tree gp.tree, kIadr_LS gc, kIadr_LS gp, e1, w0, e2, hl, appV, elemsOf, roomB, freezeH, fin, Go1_kif, Go1_ret, Go1_normal, Go1_exit, RtF_ret, ex_eq, ex_eq2, tidy, kCond_kc, kc_kif, ↓kif_tr, ↓kif_fl, kif_tr, kif_fl, kif_same, ↓kif_not, ↓kif_or, ↓kifg_tr, ↓kifg_fl, ↓kifg_not, ↓kifg_or, ↓kifg_and, kifg_kif, kifB_t, kifB_f, kifB_ft, kifB_tt, kif_bool, kif_int, mergeL, mergeV, mergeS, mergeRs, kSeq_kif, kBlk_kif, kPost_kif, kNext_kif, kFin_kif, kReg_kif, kOps_kif, kO_kif, kG_kif, kDrw_kif, kW_kif, kOpsW_kif, kRet_kif, map_kif, bind_kif, kWant_t, kWant_f, kWant_kif, ↓execI_pick, kPick_bool, kPick_kif, ↓execI_iadr, kIadr_sl, ↓execI_idxs, kIdxs_str, ↓execI_len, ↓rdB_ld, kRd_ptr, kRd_tptr, kRd_tup, kRd_kif, kOpsW_bs, gt0, st0, gt1, st1, gt2, st2, gt3, st3, gt4, st4, gt5, st5, gt6, st6, gt7, st7, gt8, st8, -kWant_bool, -Int.not_le, -Int.not_lt, -decide_eq_true_eq, -decide_eq_false_iff_not, -List.getD_eq_getElem?_getD, -List.set_cons_succ, -List.set_cons_zero, -Bool.and_eq_true, -Bool.or_eq_true, -Bool.not_eq_eq_eq_not, -Bool.or_eq_false_iff, -Bool.and_eq_false_imp, -Bool.not_eq_true, -Bool.not_eq_false]
  have e2 : decide (c - at' < dep) = true := by simp; omega
  rw [if_pos ⟨a1, a2⟩]
  have w1 : IntKind.i64.wrap (c - at') = c - at' := wrap64 (by unfold wfI at hc; omega) (by unfold wfI at hc; omega)
  rcases ht with ⟨rfl, rfl⟩ | ⟨hl0, rfl⟩
  · have fin : ∀ d, J8 bl sc pa c ([] ++ [((k : Int), c - at')]) (k + 1) (T8n sc pa 1 c (k + 1) [bxP [((k : Int), c - at')], bxO (issL bl sc pa)] d) := fun d => ⟨d, .inr ⟨by simp, rfl⟩⟩
    generalize J8 bl sc pa c ([] ++ [((k : Int), c - at')]) (k + 1) = II at fin ⊢
    simp only [T8n, bxP, bxO, rwP, List.map_cons, List.map_nil, Int.natCast_add, Int.natCast_one] at fin
    unfold c8_b0 T8e bxO
    simp (contextual := true) (maxSteps := 10000000) (implicitDefEqProofs := false) [h1, h3, h4, c1, c2, hrow, hr, hdep, hlen, hget, -getElem?_pos, List.getElem?_cons_zero, List.getElem?_cons_succ, -List.getElem?_map, gc.cell, refs_tree gc.tree, ren_tree gc.tree, kLen_lst gc.lst, snap1_tree gc.tree, snap_tree gc.tree, gp.cell, refs_tree gp.tree, ren_tree gp.tree, kLen_lst gp.lst, snap1_tree gp.tree, snap_tree gp.tree, kIadr_LS gc, kIadr_LS gp, e1, e2, w1, appV, elemsOf, roomB, freezeH, fin, Go1_kif, Go1_ret, Go1_normal, Go1_exit, RtF_ret, ex_eq, ex_eq2, tidy, kCond_kc, kc_kif, ↓kif_tr, ↓kif_fl, kif_tr, kif_fl, kif_same, ↓kif_not, ↓kif_or, ↓kifg_tr, ↓kifg_fl, ↓kifg_not, ↓kifg_or, ↓kifg_and, kifg_kif, kifB_t, kifB_f, kifB_ft, kifB_tt, kif_bool, kif_int, mergeL, mergeV, mergeS, mergeRs, kSeq_kif, kBlk_kif, kPost_kif, kNext_kif, kFin_kif, kReg_kif, kOps_kif, kO_kif, kG_kif, kDrw_kif, kW_kif, kOpsW_kif, kRet_kif, map_kif, bind_kif, kWant_t, kWant_f, kWant_kif, ↓execI_pick, kPick_bool, kPick_kif, ↓execI_iadr, kIadr_sl, ↓execI_idxs, kIdxs_str, ↓execI_len, ↓rdB_ld, kRd_ptr, kRd_tptr, kRd_tup, kRd_kif, kOpsW_bs, gt0, st0, gt1, st1, gt2, st2, gt3, st3, gt4, st4, gt5, st5, gt6, st6, gt7, st7, gt8, st8, -kWant_bool, -Int.not_le, -Int.not_lt, -decide_eq_true_eq, -decide_eq_false_iff_not, -List.getD_eq_getElem?_getD, -List.set_cons_succ, -List.set_cons_zero, -Bool.and_eq_true, -Bool.or_eq_true, -Bool.not_eq_eq_eq_not, -Bool.or_eq_false_iff, -Bool.and_eq_false_imp, -Bool.not_eq_true, -Bool.not_eq_false]
  · have r1 : (P.length + 1) * 16 ≤ 140737488351232 := by omega
    have r2 : P.length + 1 ≤ 140737488351232 := by omega
    have lg : ¬ P.length + 1 ≤ P.length := by omega
    have hl : (P.map rwP).length = P.length := by simp
    have tak : (P.map rwP).take P.length = P.map rwP := List.take_of_length_le (by omega)
    have dr : (P.map rwP).drop (P.length + 1) = [] := List.drop_eq_nil_of_le (by omega)
    have fin : ∀ d, J8 bl sc pa c (P ++ [((k : Int), c - at')]) (k + 1) (T8n sc pa (P.length + 1) c (k + 1) [bxP (P ++ [((k : Int), c - at')]), bxO (issL bl sc pa)] d) := fun d => ⟨d, .inr ⟨by simp, by simp⟩⟩
    generalize J8 bl sc pa c (P ++ [((k : Int), c - at')]) (k + 1) = II at fin ⊢
    simp only [T8n, bxP, bxO, List.map_append, List.map_cons, List.map_nil, Int.natCast_add, Int.natCast_one] at fin
    unfold c8_b0 T8n bxO bxP
    generalize P.map rwP = os at *
    simp only [rwP] at fin
    simp (contextual := true) (maxSteps := 10000000) (implicitDefEqProofs := false) [h1, h3, h4, c1, c2, hrow, hr, hdep, hlen, hget, -getElem?_pos, List.getElem?_cons_zero, List.getElem?_cons_succ, -List.getElem?_map, gc.cell, refs_tree gc.tree, ren_tree gc.tree, kLen_lst gc.lst, snap1_tree gc.tree, snap_tree gc.tree, gp.cell, refs_tree gp.tree, ren_tree gp.tree, kLen_lst gp.lst, snap1_tree gp.tree, snap_tree gp.tree, kIadr_LS gc, kIadr_LS gp, e1, e2, w1, hl, r1, r2, lg, tak, dr, appV, elemsOf, roomB, freezeH, fin, Go1_kif, Go1_ret, Go1_normal, Go1_exit, RtF_ret, ex_eq, ex_eq2, tidy, kCond_kc, kc_kif, ↓kif_tr, ↓kif_fl, kif_tr, kif_fl, kif_same, ↓kif_not, ↓kif_or, ↓kifg_tr, ↓kifg_fl, ↓kifg_not, ↓kifg_or, ↓kifg_and, kifg_kif, kifB_t, kifB_f, kifB_ft, kifB_tt, kif_bool, kif_int, mergeL, mergeV, mergeS, mergeRs, kSeq_kif, kBlk_kif, kPost_kif, kNext_kif, kFin_kif, kReg_kif, kOps_kif, kO_kif, kG_kif, kDrw_kif, kW_kif, kOpsW_kif, kRet_kif, map_kif, bind_kif, kWant_t, kWant_f, kWant_kif, ↓execI_pick, kPick_bool, kPick_kif, ↓execI_iadr, kIadr_sl, ↓execI_idxs, kIdxs_str, ↓execI_len, ↓rdB_ld, kRd_ptr, kRd_tptr, kRd_tup, kRd_kif, kOpsW_bs, gt0, st0, gt1, st1, gt2, st2, gt3, st3, gt4, st4, gt5, st5, gt6, st6, gt7, st7, gt8, st8, -kWant_bool, -Int.not_le, -Int.not_lt, -decide_eq_true_eq, -decide_eq_false_iff_not, -List.getD_eq_getElem?_getD, -List.set_cons_succ, -List.set_cons_zero, -Bool.and_eq_true, -Bool.or_eq_true, -Bool.not_eq_eq_eq_not, -Bool.or_eq_false_iff, -Bool.and_eq_false_imp, -Bool.not_eq_true, -Bool.not_eq_false]
end Go.AM.Ytegibclhopenmaa
