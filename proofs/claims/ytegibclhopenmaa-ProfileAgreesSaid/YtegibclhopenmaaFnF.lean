/- jacquardref56.Blocks: its inner rounds. -/
import Derived.Test.YtegibclhopenmaaFnC
set_option linter.unusedVariables false
set_option linter.unusedSimpArgs false
namespace Go.AM.Ytegibclhopenmaa
open Go Go.AM
set_option maxRecDepth 100000
set_option maxHeartbeats 0
attribute [local congr] kif_congr
def bxH (k : Nat) (v c : Int) : Blk := ⟨3, [[.int .i64 k, .int .i64 v, .int .i64 c]], 0, true, true⟩
theorem cyV_bd {bl sc pa : V} {n : Nat} {b : Int} {i : Nat} (ho : okS sc b.toNat) : 0 ≤ cyV bl sc pa n b i ∧ cyV bl sc pa n b i ≤ 1000 := by
  obtain ⟨o1, o2, o3, o4⟩ := ho
  unfold cyV; split <;> omega
theorem vis_bd (pa : V) (b : Int) : ∀ j, 0 ≤ vis pa b j ∧ vis pa b j ≤ j
  | 0 => by simp [vis]
  | j + 1 => by
    have := vis_bd pa b j
    simp only [vis]; split <;> omega
theorem cyc_bd {bl sc pa : V} {n : Nat} {b : Int} (ho : okS sc b.toNat) : ∀ j, 0 ≤ cyc bl sc pa n b j ∧ cyc bl sc pa n b j ≤ 1000 * j
  | 0 => by simp [cyc]
  | j + 1 => by
    have h1 := cyc_bd (bl := bl) (pa := pa) (n := n) ho j
    have h2 := cyV_bd (bl := bl) (pa := pa) (n := n) (i := j) ho
    simp only [cyc]; split <;> omega
def T13e (sc pa : V) (nb n k i : Nat) (H : Heap) (d : Bool) : St := ⟨[.undef, sc, pa, .ptr 0 1 0 0, .undef, .undef, .undef, .nils, .int .i64 k, .ptr 1 1 0 0, .undef, .undef, .undef, .int .i64 nb, .int .i64 k, .undef, .undef, .undef, .undef, .undef, .int .i64 n, .int .i64 i, .undef, .undef, .undef, .undef, .undef, .undef, .undef, .undef, .undef, .undef, .undef, .undef, .undef, .undef, .undef, .undef, .undef, .undef, .undef, .undef, .undef, .undef, .undef, .undef, .undef, .undef, .undef, .undef, .undef, .undef, .undef, .undef, .undef, .undef, .undef, .undef, .undef, .undef, .undef, .undef, .undef, .undef, .undef, .undef, .undef, .undef, .undef, .undef, .undef, .undef, .undef, .undef, .undef, .undef, .undef, .undef, .undef, .undef, .undef, .undef, .undef], H, d⟩
def T13n (sc pa : V) (l nb n k i : Nat) (H : Heap) (d : Bool) : St := ⟨[.undef, sc, pa, .ptr 0 1 0 0, .undef, .undef, .undef, .sl 3 1 l 0 l, .int .i64 k, .ptr 2 1 0 0, .undef, .undef, .undef, .int .i64 nb, .int .i64 k, .undef, .undef, .undef, .undef, .undef, .int .i64 n, .int .i64 i, .undef, .undef, .undef, .undef, .undef, .undef, .undef, .undef, .undef, .undef, .undef, .undef, .undef, .undef, .undef, .undef, .undef, .undef, .undef, .undef, .undef, .undef, .undef, .undef, .undef, .undef, .undef, .undef, .undef, .undef, .undef, .undef, .undef, .undef, .undef, .undef, .undef, .undef, .undef, .undef, .undef, .undef, .undef, .undef, .undef, .undef, .undef, .undef, .undef, .undef, .undef, .undef, .undef, .undef, .undef, .undef, .undef, .undef, .undef, .undef, .undef], H, d⟩
def J13 (B : Blk) (sc pa : V) (nb : Nat) (L : Mp) (k i : Nat) (v c : Int) (t : St) : Prop := ∃ d, (L = [] ∧ t = T13e sc pa nb (lenV pa) k i [B, bxH k v c] d) ∨ (0 < L.length ∧ t = T13n sc pa L.length nb (lenV pa) k i [B, bxR L, bxH k v c] d)
theorem g13i (K : Nat) (hK : BIG ≤ K) (nm : ByteArray) (w ar st rt bl : V) (h : OkF nm w ar st rt bl) (sc pa : V) (hs : S28 [sc]) (hp : S22 [pa]) (hn : lenV pa ≤ 60) (L : Mp) (k : Nat) (hk : k < lenV bl) (hsc : lenV sc = lenV bl) (ho : okS sc k) (i : Nat) (hi : i < lenV pa) (t : St)
    (ht : J13 (bxF nm w ar st rt bl) sc pa (lenV bl) L k i (vis pa k i) (cyc bl sc pa (lenV pa) k i) t) :
    Go1 (tidy [1, 2, 3, 7, 8, 9, 13, 14, 20, 21] 0) (J13 (bxF nm w ar st rt bl) sc pa (lenV bl) L k (i + 1) (vis pa k (i + 1)) (cyc bl sc pa (lenV pa) k (i + 1))) (fun _ => False) (execC (callF tbl pu (K + 1)) pu 0 (K + 1) c13_b0 t) := by
  obtain ⟨d, ht⟩ := ht
  have gw := LS22 h.w
  have ga := LS23 h.ar
  have gs := LS24 h.st
  have gr := LS22 h.rt
  have gb := LS25 h.bl
  have gc := LS28 hs
  have gp := LS22 hp
  have hkk : ((k : Int).toNat) = k := rfl
  have b1 := vis_bd pa k i
  have b2 := cyc_bd (bl := bl) (sc := sc) (pa := pa) (n := lenV pa) (b := (k : Int)) ho i
  have v1 : vis pa k (i + 1) = vis pa k i + if ic pa i 0 = k then 1 else 0 := rfl
  have v2 : cyc bl sc pa (lenV pa) k (i + 1) = cyc bl sc pa (lenV pa) k i + if ic pa i 0 = k then cyV bl sc pa (lenV pa) k i else 0 := rfl
  have hcv : cyV bl sc pa (lenV pa) k i = if i + 1 < lenV pa ∧ ic pa (i + 1) 0 = k ∧ SPp bl sc k then ic sc k 0 else ic sc k 1 := rfl
  rw [v1, v2]
  generalize vis pa k i = vv at *
  generalize cyc bl sc pa (lenV pa) k i = cc at *
  generalize cyV bl sc pa (lenV pa) k i = cv at *
  have hlb := len25 h.bl
  simp only [LMAX] at hlb
  have h1 : IntKind.i64.wrap ((i : Int) + 1) = (i : Int) + 1 := wrap64 (by omega) (by omega)
  have h3 : decide (lenV pa ≤ i) = false := by simp; omega
  have h4 : decide (i < lenV pa) = true := by simp; omega
  have hrow := (e22 hp hi).1
  have c1 : decide ((k : Int) < 0) = false := by simp
  have c2 : decide ((lenV sc : Int) ≤ k) = false := by simp; omega
  have c2' : decide (lenV sc ≤ k) = false := by simp; omega
  have hr := sc_row hs c1 c2
  rw [hkk] at hr
  obtain ⟨o1, o2, o3, o4⟩ := ho
  have w1 : IntKind.i64.wrap (vv + 1) = vv + 1 := wrap64 (by omega) (by omega)
  have w2 : IntKind.i64.wrap (cc + ic sc k 0) = cc + ic sc k 0 := wrap64 (by omega) (by omega)
  have w3 : IntKind.i64.wrap (cc + ic sc k 1) = cc + ic sc k 1 := wrap64 (by omega) (by omega)
  obtain ⟨n, dn, q18, hn18⟩ := tot18 K hK nm w ar st rt bl h sc hs k
  by_cases a1 : ic pa i 0 = k
  case neg =>
    have e1 : decide (ic pa i 0 = k) = false := by simp [a1]
    rw [if_neg a1, if_neg a1, Int.add_zero, Int.add_zero]
    rcases ht with ⟨hl, rfl⟩ | ⟨hl, rfl⟩
    · have fin : ∀ d, J13 (bxF nm w ar st rt bl) sc pa (lenV bl) L k (i + 1) vv cc (T13e sc pa (lenV bl) (lenV pa) k (i + 1) [bxF nm w ar st rt bl, bxH k vv cc] d) := fun d => ⟨d, .inl ⟨hl, rfl⟩⟩
      generalize J13 (bxF nm w ar st rt bl) sc pa (lenV bl) L k (i + 1) vv cc = II at fin ⊢
      simp only [T13e, bxF, bxH, Int.natCast_add, Int.natCast_one] at fin
      unfold c13_b0 T13e bxF bxH
      simp (contextual := true) (maxSteps := 10000000) (implicitDefEqProofs := false) [c13_r0, c13_a0, c13_r1, c13_a1, h1, h3, h4, hrow, hr, c1, c2, c2', e1, w1, w2, w3, callV_pu, q18, gw.all, ga.all, gs.all, gr.all, gb.all, gc.all, gp.all, kIadr_LS gc, kIadr_LS gp, freezeH, fin, Go1_kif, Go1_ret, Go1_normal, Go1_exit, RtF_ret, ex_eq, ex_eq2, tidy, kCond_kc, kc_kif, ↓kif_tr, ↓kif_fl, kif_tr, kif_fl, kif_same, ↓kif_not, ↓kif_or, ↓kifg_tr, ↓kifg_fl, ↓kifg_not, ↓kifg_or, ↓kifg_and, kifg_kif, kifB_t, kifB_f, kifB_ft, kifB_tt, kif_bool, kif_int, mergeL, mergeV, mergeS, mergeRs, kSeq_kif, kBlk_kif, kPost_kif, kNext_kif, kFin_kif, kReg_kif, kOps_kif, kO_kif, kG_kif, kDrw_kif, kW_kif, kOpsW_kif, kRet_kif, map_kif, bind_kif, kWant_t, kWant_f, kWant_kif, ↓execI_pick, kPick_bool, kPick_kif, ↓execI_iadr, kIadr_sl, ↓execI_idxs, kIdxs_str, ↓execI_len, ↓rdB_ld, kRd_ptr, kRd_tptr, kRd_tup, kRd_kif, kOpsW_bs, gt0, st0, gt1, st1, gt2, st2, gt3, st3, gt4, st4, gt5, st5, gt6, st6, gt7, st7, gt8, st8, -kWant_bool, -Int.not_le, -Int.not_lt, -decide_eq_true_eq, -decide_eq_false_iff_not, -List.getD_eq_getElem?_getD, -List.set_cons_succ, -List.set_cons_zero, -Bool.and_eq_true, -Bool.or_eq_true, -Bool.not_eq_eq_eq_not, -Bool.or_eq_false_iff, -Bool.and_eq_false_imp, -Bool.not_eq_true, -Bool.not_eq_false]
    · have fin : ∀ d, J13 (bxF nm w ar st rt bl) sc pa (lenV bl) L k (i + 1) vv cc (T13n sc pa L.length (lenV bl) (lenV pa) k (i + 1) [bxF nm w ar st rt bl, bxR L, bxH k vv cc] d) := fun d => ⟨d, .inr ⟨hl, rfl⟩⟩
      generalize J13 (bxF nm w ar st rt bl) sc pa (lenV bl) L k (i + 1) vv cc = II at fin ⊢
      simp only [T13n, bxF, bxH, Int.natCast_add, Int.natCast_one] at fin
      unfold c13_b0 T13n bxF bxH
      simp (contextual := true) (maxSteps := 10000000) (implicitDefEqProofs := false) [c13_r0, c13_a0, c13_r1, c13_a1, h1, h3, h4, hrow, hr, c1, c2, c2', e1, w1, w2, w3, callV_pu, q18, gw.all, ga.all, gs.all, gr.all, gb.all, gc.all, gp.all, kIadr_LS gc, kIadr_LS gp, freezeH, bxR_ren, bxR_box, fin, Go1_kif, Go1_ret, Go1_normal, Go1_exit, RtF_ret, ex_eq, ex_eq2, tidy, kCond_kc, kc_kif, ↓kif_tr, ↓kif_fl, kif_tr, kif_fl, kif_same, ↓kif_not, ↓kif_or, ↓kifg_tr, ↓kifg_fl, ↓kifg_not, ↓kifg_or, ↓kifg_and, kifg_kif, kifB_t, kifB_f, kifB_ft, kifB_tt, kif_bool, kif_int, mergeL, mergeV, mergeS, mergeRs, kSeq_kif, kBlk_kif, kPost_kif, kNext_kif, kFin_kif, kReg_kif, kOps_kif, kO_kif, kG_kif, kDrw_kif, kW_kif, kOpsW_kif, kRet_kif, map_kif, bind_kif, kWant_t, kWant_f, kWant_kif, ↓execI_pick, kPick_bool, kPick_kif, ↓execI_iadr, kIadr_sl, ↓execI_idxs, kIdxs_str, ↓execI_len, ↓rdB_ld, kRd_ptr, kRd_tptr, kRd_tup, kRd_kif, kOpsW_bs, gt0, st0, gt1, st1, gt2, st2, gt3, st3, gt4, st4, gt5, st5, gt6, st6, gt7, st7, gt8, st8, -kWant_bool, -Int.not_le, -Int.not_lt, -decide_eq_true_eq, -decide_eq_false_iff_not, -List.getD_eq_getElem?_getD, -List.set_cons_succ, -List.set_cons_zero, -Bool.and_eq_true, -Bool.or_eq_true, -Bool.not_eq_eq_eq_not, -Bool.or_eq_false_iff, -Bool.and_eq_false_imp, -Bool.not_eq_true, -Bool.not_eq_false]
  have e1 : decide (ic pa i 0 = k) = true := by simp [a1]
  rw [if_pos a1, if_pos a1]
  by_cases a2 : i + 1 < lenV pa
  case neg =>
    have e2 : decide ((i : Int) + 1 < lenV pa) = false := by simp; omega
    rw [if_neg (fun hh => a2 hh.1)] at hcv
    subst hcv
    rcases ht with ⟨hl, rfl⟩ | ⟨hl, rfl⟩
    · have fin : ∀ d, J13 (bxF nm w ar st rt bl) sc pa (lenV bl) L k (i + 1) (vv + 1) (cc + ic sc k 1) (T13e sc pa (lenV bl) (lenV pa) k (i + 1) [bxF nm w ar st rt bl, bxH k (vv + 1) (cc + ic sc k 1)] d) := fun d => ⟨d, .inl ⟨hl, rfl⟩⟩
      generalize J13 (bxF nm w ar st rt bl) sc pa (lenV bl) L k (i + 1) (vv + 1) (cc + ic sc k 1) = II at fin ⊢
      simp only [T13e, bxF, bxH, Int.natCast_add, Int.natCast_one] at fin
      have hb0 : barrierW c13_r0 c13_a0 [(1, false, [1]), (9, true, [1])] 9 [1] = true := by decide
      have hb1 : barrierW c13_r1 c13_a1 [(1, false, [1]), (9, true, [1])] 9 [1] = true := by decide
      unfold c13_r0 c13_a0 at hb0; unfold c13_r1 c13_a1 at hb1
      unfold c13_b0 T13e bxF bxH
      simp (contextual := true) (maxSteps := 10000000) (implicitDefEqProofs := false) [c13_r0, c13_a0, c13_r1, c13_a1, hb0, hb1, h1, h3, h4, hrow, hr, c1, c2, c2', e1, e2, w1, w2, w3, callV_pu, q18, gw.all, ga.all, gs.all, gr.all, gb.all, gc.all, gp.all, kIadr_LS gc, kIadr_LS gp, freezeH, bxR_ren, bxR_box, fin, Go1_kif, Go1_ret, Go1_normal, Go1_exit, RtF_ret, ex_eq, ex_eq2, tidy, kCond_kc, kc_kif, ↓kif_tr, ↓kif_fl, kif_tr, kif_fl, kif_same, ↓kif_not, ↓kif_or, ↓kifg_tr, ↓kifg_fl, ↓kifg_not, ↓kifg_or, ↓kifg_and, kifg_kif, kifB_t, kifB_f, kifB_ft, kifB_tt, kif_bool, kif_int, mergeL, mergeV, mergeS, mergeRs, kSeq_kif, kBlk_kif, kPost_kif, kNext_kif, kFin_kif, kReg_kif, kOps_kif, kO_kif, kG_kif, kDrw_kif, kW_kif, kOpsW_kif, kRet_kif, map_kif, bind_kif, kWant_t, kWant_f, kWant_kif, ↓execI_pick, kPick_bool, kPick_kif, ↓execI_iadr, kIadr_sl, ↓execI_idxs, kIdxs_str, ↓execI_len, ↓rdB_ld, kRd_ptr, kRd_tptr, kRd_tup, kRd_kif, kOpsW_bs, gt0, st0, gt1, st1, gt2, st2, gt3, st3, gt4, st4, gt5, st5, gt6, st6, gt7, st7, gt8, st8, -kWant_bool, -Int.not_le, -Int.not_lt, -decide_eq_true_eq, -decide_eq_false_iff_not, -List.getD_eq_getElem?_getD, -List.set_cons_succ, -List.set_cons_zero, -Bool.and_eq_true, -Bool.or_eq_true, -Bool.not_eq_eq_eq_not, -Bool.or_eq_false_iff, -Bool.and_eq_false_imp, -Bool.not_eq_true, -Bool.not_eq_false]
    · have fin : ∀ d, J13 (bxF nm w ar st rt bl) sc pa (lenV bl) L k (i + 1) (vv + 1) (cc + ic sc k 1) (T13n sc pa L.length (lenV bl) (lenV pa) k (i + 1) [bxF nm w ar st rt bl, bxR L, bxH k (vv + 1) (cc + ic sc k 1)] d) := fun d => ⟨d, .inr ⟨hl, rfl⟩⟩
      generalize J13 (bxF nm w ar st rt bl) sc pa (lenV bl) L k (i + 1) (vv + 1) (cc + ic sc k 1) = II at fin ⊢
      simp only [T13n, bxF, bxH, Int.natCast_add, Int.natCast_one] at fin
      have hb0 : barrierW c13_r0 c13_a0 [(1, false, [2]), (9, true, [2])] 9 [2] = true := by decide
      have hb1 : barrierW c13_r1 c13_a1 [(1, false, [2]), (9, true, [2])] 9 [2] = true := by decide
      unfold c13_r0 c13_a0 at hb0; unfold c13_r1 c13_a1 at hb1
      unfold c13_b0 T13n bxF bxH
      simp (contextual := true) (maxSteps := 10000000) (implicitDefEqProofs := false) [c13_r0, c13_a0, c13_r1, c13_a1, hb0, hb1, h1, h3, h4, hrow, hr, c1, c2, c2', e1, e2, w1, w2, w3, callV_pu, q18, gw.all, ga.all, gs.all, gr.all, gb.all, gc.all, gp.all, kIadr_LS gc, kIadr_LS gp, freezeH, bxR_ren, bxR_box, fin, Go1_kif, Go1_ret, Go1_normal, Go1_exit, RtF_ret, ex_eq, ex_eq2, tidy, kCond_kc, kc_kif, ↓kif_tr, ↓kif_fl, kif_tr, kif_fl, kif_same, ↓kif_not, ↓kif_or, ↓kifg_tr, ↓kifg_fl, ↓kifg_not, ↓kifg_or, ↓kifg_and, kifg_kif, kifB_t, kifB_f, kifB_ft, kifB_tt, kif_bool, kif_int, mergeL, mergeV, mergeS, mergeRs, kSeq_kif, kBlk_kif, kPost_kif, kNext_kif, kFin_kif, kReg_kif, kOps_kif, kO_kif, kG_kif, kDrw_kif, kW_kif, kOpsW_kif, kRet_kif, map_kif, bind_kif, kWant_t, kWant_f, kWant_kif, ↓execI_pick, kPick_bool, kPick_kif, ↓execI_iadr, kIadr_sl, ↓execI_idxs, kIdxs_str, ↓execI_len, ↓rdB_ld, kRd_ptr, kRd_tptr, kRd_tup, kRd_kif, kOpsW_bs, gt0, st0, gt1, st1, gt2, st2, gt3, st3, gt4, st4, gt5, st5, gt6, st6, gt7, st7, gt8, st8, -kWant_bool, -Int.not_le, -Int.not_lt, -decide_eq_true_eq, -decide_eq_false_iff_not, -List.getD_eq_getElem?_getD, -List.set_cons_succ, -List.set_cons_zero, -Bool.and_eq_true, -Bool.or_eq_true, -Bool.not_eq_eq_eq_not, -Bool.or_eq_false_iff, -Bool.and_eq_false_imp, -Bool.not_eq_true, -Bool.not_eq_false]
  have e2 : decide ((i : Int) + 1 < lenV pa) = true := by simp; omega
  have e3 : decide ((lenV pa : Int) ≤ (i : Int) + 1) = false := by simp; omega
  have e4 : decide ((i : Int) + 1 < 0) = false := by simp; omega
  have hrow2 := (e22 hp a2).1
  by_cases a3 : ic pa (i + 1) 0 = k
  case neg =>
    have e5 : decide (ic pa (i + 1) 0 = k) = false := by simp [a3]
    rw [if_neg (fun hh => a3 hh.2.1)] at hcv
    subst hcv
    rcases ht with ⟨hl, rfl⟩ | ⟨hl, rfl⟩
    · have fin : ∀ d, J13 (bxF nm w ar st rt bl) sc pa (lenV bl) L k (i + 1) (vv + 1) (cc + ic sc k 1) (T13e sc pa (lenV bl) (lenV pa) k (i + 1) [bxF nm w ar st rt bl, bxH k (vv + 1) (cc + ic sc k 1)] d) := fun d => ⟨d, .inl ⟨hl, rfl⟩⟩
      generalize J13 (bxF nm w ar st rt bl) sc pa (lenV bl) L k (i + 1) (vv + 1) (cc + ic sc k 1) = II at fin ⊢
      simp only [T13e, bxF, bxH, Int.natCast_add, Int.natCast_one] at fin
      have hb0 : barrierW c13_r0 c13_a0 [(1, false, [1]), (9, true, [1])] 9 [1] = true := by decide
      have hb1 : barrierW c13_r1 c13_a1 [(1, false, [1]), (9, true, [1])] 9 [1] = true := by decide
      unfold c13_r0 c13_a0 at hb0; unfold c13_r1 c13_a1 at hb1
      unfold c13_b0 T13e bxF bxH
      simp (contextual := true) (maxSteps := 10000000) (implicitDefEqProofs := false) [c13_r0, c13_a0, c13_r1, c13_a1, hb0, hb1, h1, h3, h4, hrow, hr, c1, c2, c2', e1, e2, e3, e4, hrow2, e5, w1, w2, w3, callV_pu, q18, gw.all, ga.all, gs.all, gr.all, gb.all, gc.all, gp.all, kIadr_LS gc, kIadr_LS gp, freezeH, bxR_ren, bxR_box, fin, Go1_kif, Go1_ret, Go1_normal, Go1_exit, RtF_ret, ex_eq, ex_eq2, tidy, kCond_kc, kc_kif, ↓kif_tr, ↓kif_fl, kif_tr, kif_fl, kif_same, ↓kif_not, ↓kif_or, ↓kifg_tr, ↓kifg_fl, ↓kifg_not, ↓kifg_or, ↓kifg_and, kifg_kif, kifB_t, kifB_f, kifB_ft, kifB_tt, kif_bool, kif_int, mergeL, mergeV, mergeS, mergeRs, kSeq_kif, kBlk_kif, kPost_kif, kNext_kif, kFin_kif, kReg_kif, kOps_kif, kO_kif, kG_kif, kDrw_kif, kW_kif, kOpsW_kif, kRet_kif, map_kif, bind_kif, kWant_t, kWant_f, kWant_kif, ↓execI_pick, kPick_bool, kPick_kif, ↓execI_iadr, kIadr_sl, ↓execI_idxs, kIdxs_str, ↓execI_len, ↓rdB_ld, kRd_ptr, kRd_tptr, kRd_tup, kRd_kif, kOpsW_bs, gt0, st0, gt1, st1, gt2, st2, gt3, st3, gt4, st4, gt5, st5, gt6, st6, gt7, st7, gt8, st8, -kWant_bool, -Int.not_le, -Int.not_lt, -decide_eq_true_eq, -decide_eq_false_iff_not, -List.getD_eq_getElem?_getD, -List.set_cons_succ, -List.set_cons_zero, -Bool.and_eq_true, -Bool.or_eq_true, -Bool.not_eq_eq_eq_not, -Bool.or_eq_false_iff, -Bool.and_eq_false_imp, -Bool.not_eq_true, -Bool.not_eq_false]
    · have fin : ∀ d, J13 (bxF nm w ar st rt bl) sc pa (lenV bl) L k (i + 1) (vv + 1) (cc + ic sc k 1) (T13n sc pa L.length (lenV bl) (lenV pa) k (i + 1) [bxF nm w ar st rt bl, bxR L, bxH k (vv + 1) (cc + ic sc k 1)] d) := fun d => ⟨d, .inr ⟨hl, rfl⟩⟩
      generalize J13 (bxF nm w ar st rt bl) sc pa (lenV bl) L k (i + 1) (vv + 1) (cc + ic sc k 1) = II at fin ⊢
      simp only [T13n, bxF, bxH, Int.natCast_add, Int.natCast_one] at fin
      have hb0 : barrierW c13_r0 c13_a0 [(1, false, [2]), (9, true, [2])] 9 [2] = true := by decide
      have hb1 : barrierW c13_r1 c13_a1 [(1, false, [2]), (9, true, [2])] 9 [2] = true := by decide
      unfold c13_r0 c13_a0 at hb0; unfold c13_r1 c13_a1 at hb1
      unfold c13_b0 T13n bxF bxH
      simp (contextual := true) (maxSteps := 10000000) (implicitDefEqProofs := false) [c13_r0, c13_a0, c13_r1, c13_a1, hb0, hb1, h1, h3, h4, hrow, hr, c1, c2, c2', e1, e2, e3, e4, hrow2, e5, w1, w2, w3, callV_pu, q18, gw.all, ga.all, gs.all, gr.all, gb.all, gc.all, gp.all, kIadr_LS gc, kIadr_LS gp, freezeH, bxR_ren, bxR_box, fin, Go1_kif, Go1_ret, Go1_normal, Go1_exit, RtF_ret, ex_eq, ex_eq2, tidy, kCond_kc, kc_kif, ↓kif_tr, ↓kif_fl, kif_tr, kif_fl, kif_same, ↓kif_not, ↓kif_or, ↓kifg_tr, ↓kifg_fl, ↓kifg_not, ↓kifg_or, ↓kifg_and, kifg_kif, kifB_t, kifB_f, kifB_ft, kifB_tt, kif_bool, kif_int, mergeL, mergeV, mergeS, mergeRs, kSeq_kif, kBlk_kif, kPost_kif, kNext_kif, kFin_kif, kReg_kif, kOps_kif, kO_kif, kG_kif, kDrw_kif, kW_kif, kOpsW_kif, kRet_kif, map_kif, bind_kif, kWant_t, kWant_f, kWant_kif, ↓execI_pick, kPick_bool, kPick_kif, ↓execI_iadr, kIadr_sl, ↓execI_idxs, kIdxs_str, ↓execI_len, ↓rdB_ld, kRd_ptr, kRd_tptr, kRd_tup, kRd_kif, kOpsW_bs, gt0, st0, gt1, st1, gt2, st2, gt3, st3, gt4, st4, gt5, st5, gt6, st6, gt7, st7, gt8, st8, -kWant_bool, -Int.not_le, -Int.not_lt, -decide_eq_true_eq, -decide_eq_false_iff_not, -List.getD_eq_getElem?_getD, -List.set_cons_succ, -List.set_cons_zero, -Bool.and_eq_true, -Bool.or_eq_true, -Bool.not_eq_eq_eq_not, -Bool.or_eq_false_iff, -Bool.and_eq_false_imp, -Bool.not_eq_true, -Bool.not_eq_false]
  have e5 : decide (ic pa (i + 1) 0 = k) = true := by simp [a3]
  by_cases a4 : SPp bl sc k
  case neg =>
    have e6 : decide (0 ≤ n) = false := by
      have : ¬ 0 ≤ n := fun hh => a4 (hn18.1 hh)
      simp; omega
    rw [if_neg (fun hh => a4 hh.2.2)] at hcv
    subst hcv
    rcases ht with ⟨hl, rfl⟩ | ⟨hl, rfl⟩
    · have fin : ∀ d, J13 (bxF nm w ar st rt bl) sc pa (lenV bl) L k (i + 1) (vv + 1) (cc + ic sc k 1) (T13e sc pa (lenV bl) (lenV pa) k (i + 1) [bxF nm w ar st rt bl, bxH k (vv + 1) (cc + ic sc k 1)] d) := fun d => ⟨d, .inl ⟨hl, rfl⟩⟩
      generalize J13 (bxF nm w ar st rt bl) sc pa (lenV bl) L k (i + 1) (vv + 1) (cc + ic sc k 1) = II at fin ⊢
      simp only [T13e, bxF, bxH, Int.natCast_add, Int.natCast_one] at fin
      have hb0 : barrierW c13_r0 c13_a0 [(1, false, [1]), (9, true, [1])] 9 [1] = true := by decide
      have hb1 : barrierW c13_r1 c13_a1 [(1, false, [1]), (9, true, [1])] 9 [1] = true := by decide
      unfold c13_r0 c13_a0 at hb0; unfold c13_r1 c13_a1 at hb1
      unfold c13_b0 T13e bxF bxH
      simp (contextual := true) (maxSteps := 10000000) (implicitDefEqProofs := false) [c13_r0, c13_a0, c13_r1, c13_a1, hb0, hb1, h1, h3, h4, hrow, hr, c1, c2, c2', e1, e2, e3, e4, hrow2, e5, e6, w1, w2, w3, callV_pu, q18, gw.all, ga.all, gs.all, gr.all, gb.all, gc.all, gp.all, kIadr_LS gc, kIadr_LS gp, freezeH, bxR_ren, bxR_box, fin, Go1_kif, Go1_ret, Go1_normal, Go1_exit, RtF_ret, ex_eq, ex_eq2, tidy, kCond_kc, kc_kif, ↓kif_tr, ↓kif_fl, kif_tr, kif_fl, kif_same, ↓kif_not, ↓kif_or, ↓kifg_tr, ↓kifg_fl, ↓kifg_not, ↓kifg_or, ↓kifg_and, kifg_kif, kifB_t, kifB_f, kifB_ft, kifB_tt, kif_bool, kif_int, mergeL, mergeV, mergeS, mergeRs, kSeq_kif, kBlk_kif, kPost_kif, kNext_kif, kFin_kif, kReg_kif, kOps_kif, kO_kif, kG_kif, kDrw_kif, kW_kif, kOpsW_kif, kRet_kif, map_kif, bind_kif, kWant_t, kWant_f, kWant_kif, ↓execI_pick, kPick_bool, kPick_kif, ↓execI_iadr, kIadr_sl, ↓execI_idxs, kIdxs_str, ↓execI_len, ↓rdB_ld, kRd_ptr, kRd_tptr, kRd_tup, kRd_kif, kOpsW_bs, gt0, st0, gt1, st1, gt2, st2, gt3, st3, gt4, st4, gt5, st5, gt6, st6, gt7, st7, gt8, st8, -kWant_bool, -Int.not_le, -Int.not_lt, -decide_eq_true_eq, -decide_eq_false_iff_not, -List.getD_eq_getElem?_getD, -List.set_cons_succ, -List.set_cons_zero, -Bool.and_eq_true, -Bool.or_eq_true, -Bool.not_eq_eq_eq_not, -Bool.or_eq_false_iff, -Bool.and_eq_false_imp, -Bool.not_eq_true, -Bool.not_eq_false]
    · have fin : ∀ d, J13 (bxF nm w ar st rt bl) sc pa (lenV bl) L k (i + 1) (vv + 1) (cc + ic sc k 1) (T13n sc pa L.length (lenV bl) (lenV pa) k (i + 1) [bxF nm w ar st rt bl, bxR L, bxH k (vv + 1) (cc + ic sc k 1)] d) := fun d => ⟨d, .inr ⟨hl, rfl⟩⟩
      generalize J13 (bxF nm w ar st rt bl) sc pa (lenV bl) L k (i + 1) (vv + 1) (cc + ic sc k 1) = II at fin ⊢
      simp only [T13n, bxF, bxH, Int.natCast_add, Int.natCast_one] at fin
      have hb0 : barrierW c13_r0 c13_a0 [(1, false, [2]), (9, true, [2])] 9 [2] = true := by decide
      have hb1 : barrierW c13_r1 c13_a1 [(1, false, [2]), (9, true, [2])] 9 [2] = true := by decide
      unfold c13_r0 c13_a0 at hb0; unfold c13_r1 c13_a1 at hb1
      unfold c13_b0 T13n bxF bxH
      simp (contextual := true) (maxSteps := 10000000) (implicitDefEqProofs := false) [c13_r0, c13_a0, c13_r1, c13_a1, hb0, hb1, h1, h3, h4, hrow, hr, c1, c2, c2', e1, e2, e3, e4, hrow2, e5, e6, w1, w2, w3, callV_pu, q18, gw.all, ga.all, gs.all, gr.all, gb.all, gc.all, gp.all, kIadr_LS gc, kIadr_LS gp, freezeH, bxR_ren, bxR_box, fin, Go1_kif, Go1_ret, Go1_normal, Go1_exit, RtF_ret, ex_eq, ex_eq2, tidy, kCond_kc, kc_kif, ↓kif_tr, ↓kif_fl, kif_tr, kif_fl, kif_same, ↓kif_not, ↓kif_or, ↓kifg_tr, ↓kifg_fl, ↓kifg_not, ↓kifg_or, ↓kifg_and, kifg_kif, kifB_t, kifB_f, kifB_ft, kifB_tt, kif_bool, kif_int, mergeL, mergeV, mergeS, mergeRs, kSeq_kif, kBlk_kif, kPost_kif, kNext_kif, kFin_kif, kReg_kif, kOps_kif, kO_kif, kG_kif, kDrw_kif, kW_kif, kOpsW_kif, kRet_kif, map_kif, bind_kif, kWant_t, kWant_f, kWant_kif, ↓execI_pick, kPick_bool, kPick_kif, ↓execI_iadr, kIadr_sl, ↓execI_idxs, kIdxs_str, ↓execI_len, ↓rdB_ld, kRd_ptr, kRd_tptr, kRd_tup, kRd_kif, kOpsW_bs, gt0, st0, gt1, st1, gt2, st2, gt3, st3, gt4, st4, gt5, st5, gt6, st6, gt7, st7, gt8, st8, -kWant_bool, -Int.not_le, -Int.not_lt, -decide_eq_true_eq, -decide_eq_false_iff_not, -List.getD_eq_getElem?_getD, -List.set_cons_succ, -List.set_cons_zero, -Bool.and_eq_true, -Bool.or_eq_true, -Bool.not_eq_eq_eq_not, -Bool.or_eq_false_iff, -Bool.and_eq_false_imp, -Bool.not_eq_true, -Bool.not_eq_false]
  have e6 : decide (0 ≤ n) = true := by have := hn18.2 a4; simp; omega
  rw [if_pos ⟨a2, a3, a4⟩] at hcv
  subst hcv
  rcases ht with ⟨hl, rfl⟩ | ⟨hl, rfl⟩
  · have fin : ∀ d, J13 (bxF nm w ar st rt bl) sc pa (lenV bl) L k (i + 1) (vv + 1) (cc + ic sc k 0) (T13e sc pa (lenV bl) (lenV pa) k (i + 1) [bxF nm w ar st rt bl, bxH k (vv + 1) (cc + ic sc k 0)] d) := fun d => ⟨d, .inl ⟨hl, rfl⟩⟩
    generalize J13 (bxF nm w ar st rt bl) sc pa (lenV bl) L k (i + 1) (vv + 1) (cc + ic sc k 0) = II at fin ⊢
    simp only [T13e, bxF, bxH, Int.natCast_add, Int.natCast_one] at fin
    have hb0 : barrierW c13_r0 c13_a0 [(1, false, [1]), (9, true, [1])] 9 [1] = true := by decide
    have hb1 : barrierW c13_r1 c13_a1 [(1, false, [1]), (9, true, [1])] 9 [1] = true := by decide
    unfold c13_r0 c13_a0 at hb0; unfold c13_r1 c13_a1 at hb1
    unfold c13_b0 T13e bxF bxH
    simp (contextual := true) (maxSteps := 10000000) (implicitDefEqProofs := false) [c13_r0, c13_a0, c13_r1, c13_a1, hb0, hb1, h1, h3, h4, hrow, hr, c1, c2, c2', e1, e2, e3, e4, hrow2, e5, e6, w1, w2, w3, callV_pu, q18, gw.all, ga.all, gs.all, gr.all, gb.all, gc.all, gp.all, kIadr_LS gc, kIadr_LS gp, freezeH, bxR_ren, bxR_box, fin, Go1_kif, Go1_ret, Go1_normal, Go1_exit, RtF_ret, ex_eq, ex_eq2, tidy, kCond_kc, kc_kif, ↓kif_tr, ↓kif_fl, kif_tr, kif_fl, kif_same, ↓kif_not, ↓kif_or, ↓kifg_tr, ↓kifg_fl, ↓kifg_not, ↓kifg_or, ↓kifg_and, kifg_kif, kifB_t, kifB_f, kifB_ft, kifB_tt, kif_bool, kif_int, mergeL, mergeV, mergeS, mergeRs, kSeq_kif, kBlk_kif, kPost_kif, kNext_kif, kFin_kif, kReg_kif, kOps_kif, kO_kif, kG_kif, kDrw_kif, kW_kif, kOpsW_kif, kRet_kif, map_kif, bind_kif, kWant_t, kWant_f, kWant_kif, ↓execI_pick, kPick_bool, kPick_kif, ↓execI_iadr, kIadr_sl, ↓execI_idxs, kIdxs_str, ↓execI_len, ↓rdB_ld, kRd_ptr, kRd_tptr, kRd_tup, kRd_kif, kOpsW_bs, gt0, st0, gt1, st1, gt2, st2, gt3, st3, gt4, st4, gt5, st5, gt6, st6, gt7, st7, gt8, st8, -kWant_bool, -Int.not_le, -Int.not_lt, -decide_eq_true_eq, -decide_eq_false_iff_not, -List.getD_eq_getElem?_getD, -List.set_cons_succ, -List.set_cons_zero, -Bool.and_eq_true, -Bool.or_eq_true, -Bool.not_eq_eq_eq_not, -Bool.or_eq_false_iff, -Bool.and_eq_false_imp, -Bool.not_eq_true, -Bool.not_eq_false]
  · have fin : ∀ d, J13 (bxF nm w ar st rt bl) sc pa (lenV bl) L k (i + 1) (vv + 1) (cc + ic sc k 0) (T13n sc pa L.length (lenV bl) (lenV pa) k (i + 1) [bxF nm w ar st rt bl, bxR L, bxH k (vv + 1) (cc + ic sc k 0)] d) := fun d => ⟨d, .inr ⟨hl, rfl⟩⟩
    generalize J13 (bxF nm w ar st rt bl) sc pa (lenV bl) L k (i + 1) (vv + 1) (cc + ic sc k 0) = II at fin ⊢
    simp only [T13n, bxF, bxH, Int.natCast_add, Int.natCast_one] at fin
    have hb0 : barrierW c13_r0 c13_a0 [(1, false, [2]), (9, true, [2])] 9 [2] = true := by decide
    have hb1 : barrierW c13_r1 c13_a1 [(1, false, [2]), (9, true, [2])] 9 [2] = true := by decide
    unfold c13_r0 c13_a0 at hb0; unfold c13_r1 c13_a1 at hb1
    unfold c13_b0 T13n bxF bxH
    simp (contextual := true) (maxSteps := 10000000) (implicitDefEqProofs := false) [c13_r0, c13_a0, c13_r1, c13_a1, hb0, hb1, h1, h3, h4, hrow, hr, c1, c2, c2', e1, e2, e3, e4, hrow2, e5, e6, w1, w2, w3, callV_pu, q18, gw.all, ga.all, gs.all, gr.all, gb.all, gc.all, gp.all, kIadr_LS gc, kIadr_LS gp, freezeH, bxR_ren, bxR_box, fin, Go1_kif, Go1_ret, Go1_normal, Go1_exit, RtF_ret, ex_eq, ex_eq2, tidy, kCond_kc, kc_kif, ↓kif_tr, ↓kif_fl, kif_tr, kif_fl, kif_same, ↓kif_not, ↓kif_or, ↓kifg_tr, ↓kifg_fl, ↓kifg_not, ↓kifg_or, ↓kifg_and, kifg_kif, kifB_t, kifB_f, kifB_ft, kifB_tt, kif_bool, kif_int, mergeL, mergeV, mergeS, mergeRs, kSeq_kif, kBlk_kif, kPost_kif, kNext_kif, kFin_kif, kReg_kif, kOps_kif, kO_kif, kG_kif, kDrw_kif, kW_kif, kOpsW_kif, kRet_kif, map_kif, bind_kif, kWant_t, kWant_f, kWant_kif, ↓execI_pick, kPick_bool, kPick_kif, ↓execI_iadr, kIadr_sl, ↓execI_idxs, kIdxs_str, ↓execI_len, ↓rdB_ld, kRd_ptr, kRd_tptr, kRd_tup, kRd_kif, kOpsW_bs, gt0, st0, gt1, st1, gt2, st2, gt3, st3, gt4, st4, gt5, st5, gt6, st6, gt7, st7, gt8, st8, -kWant_bool, -Int.not_le, -Int.not_lt, -decide_eq_true_eq, -decide_eq_false_iff_not, -List.getD_eq_getElem?_getD, -List.set_cons_succ, -List.set_cons_zero, -Bool.and_eq_true, -Bool.or_eq_true, -Bool.not_eq_eq_eq_not, -Bool.or_eq_false_iff, -Bool.and_eq_false_imp, -Bool.not_eq_true, -Bool.not_eq_false]
end Go.AM.Ytegibclhopenmaa

set_option linter.unusedVariables false
set_option linter.unusedSimpArgs false
namespace Go.AM.Ytegibclhopenmaa
open Go Go.AM
set_option maxRecDepth 100000
set_option maxHeartbeats 0
attribute [local congr] kif_congr
def T13oe (sc pa : V) (nb k : Nat) (H : Heap) (d : Bool) : St := ⟨[.undef, sc, pa, .ptr 0 1 0 0, .undef, .undef, .undef, .nils, .undef, .undef, .undef, .undef, .undef, .int .i64 nb, .int .i64 k, .undef, .undef, .undef, .undef, .undef, .undef, .undef, .undef, .undef, .undef, .undef, .undef, .undef, .undef, .undef, .undef, .undef, .undef, .undef, .undef, .undef, .undef, .undef, .undef, .undef, .undef, .undef, .undef, .undef, .undef, .undef, .undef, .undef, .undef, .undef, .undef, .undef, .undef, .undef, .undef, .undef, .undef, .undef, .undef, .undef, .undef, .undef, .undef, .undef, .undef, .undef, .undef, .undef, .undef, .undef, .undef, .undef, .undef, .undef, .undef, .undef, .undef, .undef, .undef, .undef, .undef, .undef, .undef], H, d⟩
def T13on (sc pa : V) (l nb k : Nat) (H : Heap) (d : Bool) : St := ⟨[.undef, sc, pa, .ptr 0 1 0 0, .undef, .undef, .undef, .sl 3 1 l 0 l, .undef, .undef, .undef, .undef, .undef, .int .i64 nb, .int .i64 k, .undef, .undef, .undef, .undef, .undef, .undef, .undef, .undef, .undef, .undef, .undef, .undef, .undef, .undef, .undef, .undef, .undef, .undef, .undef, .undef, .undef, .undef, .undef, .undef, .undef, .undef, .undef, .undef, .undef, .undef, .undef, .undef, .undef, .undef, .undef, .undef, .undef, .undef, .undef, .undef, .undef, .undef, .undef, .undef, .undef, .undef, .undef, .undef, .undef, .undef, .undef, .undef, .undef, .undef, .undef, .undef, .undef, .undef, .undef, .undef, .undef, .undef, .undef, .undef, .undef, .undef, .undef, .undef], H, d⟩
def J13o (B : Blk) (sc pa : V) (nb : Nat) (L : Mp) (k : Nat) (t : St) : Prop := ∃ d, (L = [] ∧ t = T13oe sc pa nb k [B] d) ∨ (0 < L.length ∧ t = T13on sc pa L.length nb k [B, bxR L] d)
theorem refL_len (bl sc pa : V) (n : Nat) : ∀ k, (refL bl sc pa n k).length ≤ k
  | 0 => by simp [refL]
  | k + 1 => by
    have := refL_len bl sc pa n k
    simp only [refL, List.length_append]
    split <;> simp <;> omega
theorem x13i (call : CallT) (K : Nat) (B : Blk) (sc pa : V) (nb : Nat) (L : Mp) (k : Nat) (v c : Int) (t : St) (ht : J13 B sc pa nb L k (lenV pa) v c t) : Nn (execC call pu 0 K c13_b0 t) := by
  obtain ⟨d, ht⟩ := ht
  rcases ht with ⟨hs, rfl⟩ | ⟨hs, rfl⟩
  · unfold c13_b0 T13e
    simp (contextual := true) (maxSteps := 10000000) (implicitDefEqProofs := false) [Nn_exit, kCond_kc, kc_kif, ↓kif_tr, ↓kif_fl, kif_tr, kif_fl, kif_same, ↓kif_not, ↓kif_or, ↓kifg_tr, ↓kifg_fl, ↓kifg_not, ↓kifg_or, ↓kifg_and, kifg_kif, kifB_t, kifB_f, kifB_ft, kifB_tt, kif_bool, kif_int, mergeL, mergeV, mergeS, mergeRs, kSeq_kif, kBlk_kif, kPost_kif, kNext_kif, kFin_kif, kReg_kif, kOps_kif, kO_kif, kG_kif, kDrw_kif, kW_kif, kOpsW_kif, kRet_kif, map_kif, bind_kif, kWant_t, kWant_f, kWant_kif, ↓execI_pick, kPick_bool, kPick_kif, ↓execI_iadr, kIadr_sl, ↓execI_idxs, kIdxs_str, ↓execI_len, ↓rdB_ld, kRd_ptr, kRd_tptr, kRd_tup, kRd_kif, kOpsW_bs, gt0, st0, gt1, st1, gt2, st2, gt3, st3, gt4, st4, gt5, st5, gt6, st6, gt7, st7, gt8, st8, -kWant_bool, -Int.not_le, -Int.not_lt, -decide_eq_true_eq, -decide_eq_false_iff_not, -List.getD_eq_getElem?_getD, -List.set_cons_succ, -List.set_cons_zero, -Bool.and_eq_true, -Bool.or_eq_true, -Bool.not_eq_eq_eq_not, -Bool.or_eq_false_iff, -Bool.and_eq_false_imp, -Bool.not_eq_true, -Bool.not_eq_false]
  · unfold c13_b0 T13n
    simp (contextual := true) (maxSteps := 10000000) (implicitDefEqProofs := false) [Nn_exit, kCond_kc, kc_kif, ↓kif_tr, ↓kif_fl, kif_tr, kif_fl, kif_same, ↓kif_not, ↓kif_or, ↓kifg_tr, ↓kifg_fl, ↓kifg_not, ↓kifg_or, ↓kifg_and, kifg_kif, kifB_t, kifB_f, kifB_ft, kifB_tt, kif_bool, kif_int, mergeL, mergeV, mergeS, mergeRs, kSeq_kif, kBlk_kif, kPost_kif, kNext_kif, kFin_kif, kReg_kif, kOps_kif, kO_kif, kG_kif, kDrw_kif, kW_kif, kOpsW_kif, kRet_kif, map_kif, bind_kif, kWant_t, kWant_f, kWant_kif, ↓execI_pick, kPick_bool, kPick_kif, ↓execI_iadr, kIadr_sl, ↓execI_idxs, kIdxs_str, ↓execI_len, ↓rdB_ld, kRd_ptr, kRd_tptr, kRd_tup, kRd_kif, kOpsW_bs, gt0, st0, gt1, st1, gt2, st2, gt3, st3, gt4, st4, gt5, st5, gt6, st6, gt7, st7, gt8, st8, -kWant_bool, -Int.not_le, -Int.not_lt, -decide_eq_true_eq, -decide_eq_false_iff_not, -List.getD_eq_getElem?_getD, -List.set_cons_succ, -List.set_cons_zero, -Bool.and_eq_true, -Bool.or_eq_true, -Bool.not_eq_eq_eq_not, -Bool.or_eq_false_iff, -Bool.and_eq_false_imp, -Bool.not_eq_true, -Bool.not_eq_false]
theorem g13o (K : Nat) (hK : BIG ≤ K) (nm : ByteArray) (w ar st rt bl : V) (h : OkF nm w ar st rt bl) (sc pa : V) (hs : S28 [sc]) (hp : S22 [pa]) (hn : lenV pa ≤ 60) (hnb : lenV bl ≤ 1000) (hsc : lenV sc = lenV bl) (ho : ∀ j, j < lenV sc → okS sc j) (k : Nat) (hk : k < lenV bl) (t : St)
    (ht : J13o (bxF nm w ar st rt bl) sc pa (lenV bl) (refL bl sc pa (lenV pa) k) k t) :
    Go1 (tidy [1, 2, 3, 7, 13, 14] 0) (J13o (bxF nm w ar st rt bl) sc pa (lenV bl) (refL bl sc pa (lenV pa) (k + 1)) (k + 1)) (fun _ => False) (execC (callF tbl pu (K + 1)) pu 0 (K + 1) c13_b1 t) := by
  obtain ⟨d, ht⟩ := ht
  have gw := LS22 h.w
  have ga := LS23 h.ar
  have gs := LS24 h.st
  have gr := LS22 h.rt
  have gb := LS25 h.bl
  have gc := LS28 hs
  have gp := LS22 hp
  have hlen := refL_len bl sc pa (lenV pa) k
  have hF : refL bl sc pa (lenV pa) (k + 1) = refL bl sc pa (lenV pa) k ++ if 0 < vis pa k (lenV pa) then [((k : Int), vis pa k (lenV pa), cyc bl sc pa (lenV pa) k (lenV pa))] else [] := rfl
  rw [hF]
  generalize refL bl sc pa (lenV pa) k = L at *
  have h1 : IntKind.i64.wrap ((k : Int) + 1) = (k : Int) + 1 := wrap64 (by omega) (by omega)
  have h3 : decide (lenV bl ≤ k) = false := by simp; omega
  have h4 : decide (k < lenV bl) = true := by simp; omega
  have M1 : lenV pa < K + 1 := big_lt (by simp only [LMAX]; omega) (big_add 1 hK)
  rcases ht with ⟨hl0, rfl⟩ | ⟨hl0, rfl⟩
  · rcases loop_go (I := fun i t => J13 (bxF nm w ar st rt bl) sc pa (lenV bl) L k i (vis pa k i) (cyc bl sc pa (lenV pa) k i) t) (t0 := T13e sc pa (lenV bl) (lenV pa) k 0 [bxF nm w ar st rt bl, bxH k 0 0] true) (pre := tidy [1, 2, 3, 7, 8, 9, 13, 14, 20, 21] 0) (fun i t hi ht => g13i K hK nm w ar st rt bl h sc pa hs hp hn L k hk hsc (ho k (by omega)) i hi t ht) (fun t ht => x13i (callF tbl pu (K + 1)) (K + 1) _ sc pa _ L k _ _ t ht) ⟨true, .inl ⟨hl0, rfl⟩⟩ with ⟨t, ⟨d2, ht⟩, hl⟩ | ⟨r, hr, hl⟩
    case inr => exact hr.elim
    rcases ht with ⟨-, rfl⟩ | ⟨h5, -⟩
    case inr => rw [hl0] at h5; simp at h5
    generalize vis pa k (lenV pa) = vv at *
    generalize cyc bl sc pa (lenV pa) k (lenV pa) = cc at *
    by_cases a1 : 0 < vv
    · have e1 : decide (0 < vv) = true := by simp [a1]
      rw [if_pos a1]
      subst hl0
      have fin : ∀ d, J13o (bxF nm w ar st rt bl) sc pa (lenV bl) ([] ++ [((k : Int), vv, cc)]) (k + 1) (T13on sc pa 1 (lenV bl) (k + 1) [bxF nm w ar st rt bl, bxR [((k : Int), vv, cc)]] d) := fun d => ⟨d, .inr ⟨by simp, rfl⟩⟩
      generalize J13o (bxF nm w ar st rt bl) sc pa (lenV bl) ([] ++ [((k : Int), vv, cc)]) (k + 1) = II at fin ⊢
      simp only [T13on, bxF, bxR, rwR, List.map_cons, List.map_nil, Int.natCast_add, Int.natCast_one] at fin
      unfold c13_b1 T13oe
      simp (contextual := true) (maxSteps := 10000000) (implicitDefEqProofs := false) [bxF, h1, h3, h4, gw.all, ga.all, gs.all, gr.all, gb.all, gc.all, gp.all, freezeH, execC_loop, -kIter_succ, kCond_kc, kc_kif, ↓kif_tr, ↓kif_fl, kif_tr, kif_fl, kif_same, ↓kif_not, ↓kif_or, ↓kifg_tr, ↓kifg_fl, ↓kifg_not, ↓kifg_or, ↓kifg_and, kifg_kif, kifB_t, kifB_f, kifB_ft, kifB_tt, kif_bool, kif_int, mergeL, mergeV, mergeS, mergeRs, kSeq_kif, kBlk_kif, kPost_kif, kNext_kif, kFin_kif, kReg_kif, kOps_kif, kO_kif, kG_kif, kDrw_kif, kW_kif, kOpsW_kif, kRet_kif, map_kif, bind_kif, kWant_t, kWant_f, kWant_kif, ↓execI_pick, kPick_bool, kPick_kif, ↓execI_iadr, kIadr_sl, ↓execI_idxs, kIdxs_str, ↓execI_len, ↓rdB_ld, kRd_ptr, kRd_tptr, kRd_tup, kRd_kif, kOpsW_bs, gt0, st0, gt1, st1, gt2, st2, gt3, st3, gt4, st4, gt5, st5, gt6, st6, gt7, st7, gt8, st8, -kWant_bool, -Int.not_le, -Int.not_lt, -decide_eq_true_eq, -decide_eq_false_iff_not, -List.getD_eq_getElem?_getD, -List.set_cons_succ, -List.set_cons_zero, -Bool.and_eq_true, -Bool.or_eq_true, -Bool.not_eq_eq_eq_not, -Bool.or_eq_false_iff, -Bool.and_eq_false_imp, -Bool.not_eq_true, -Bool.not_eq_false]
      rw [hl _ _ M1 (by simp (contextual := true) (maxSteps := 10000000) (implicitDefEqProofs := false) [T13e, bxF, bxH, tidy, gw.all, ga.all, gs.all, gr.all, gb.all, gc.all, gp.all, kCond_kc, kc_kif, ↓kif_tr, ↓kif_fl, kif_tr, kif_fl, kif_same, ↓kif_not, ↓kif_or, ↓kifg_tr, ↓kifg_fl, ↓kifg_not, ↓kifg_or, ↓kifg_and, kifg_kif, kifB_t, kifB_f, kifB_ft, kifB_tt, kif_bool, kif_int, mergeL, mergeV, mergeS, mergeRs, kSeq_kif, kBlk_kif, kPost_kif, kNext_kif, kFin_kif, kReg_kif, kOps_kif, kO_kif, kG_kif, kDrw_kif, kW_kif, kOpsW_kif, kRet_kif, map_kif, bind_kif, kWant_t, kWant_f, kWant_kif, ↓execI_pick, kPick_bool, kPick_kif, ↓execI_iadr, kIadr_sl, ↓execI_idxs, kIdxs_str, ↓execI_len, ↓rdB_ld, kRd_ptr, kRd_tptr, kRd_tup, kRd_kif, kOpsW_bs, gt0, st0, gt1, st1, gt2, st2, gt3, st3, gt4, st4, gt5, st5, gt6, st6, gt7, st7, gt8, st8, -kWant_bool, -Int.not_le, -Int.not_lt, -decide_eq_true_eq, -decide_eq_false_iff_not, -List.getD_eq_getElem?_getD, -List.set_cons_succ, -List.set_cons_zero, -Bool.and_eq_true, -Bool.or_eq_true, -Bool.not_eq_eq_eq_not, -Bool.or_eq_false_iff, -Bool.and_eq_false_imp, -Bool.not_eq_true, -Bool.not_eq_false])]
      simp (contextual := true) (maxSteps := 10000000) (implicitDefEqProofs := false) [T13e, c13_b0, bxF, bxH, h1, e1, gw.all, ga.all, gs.all, gr.all, gb.all, gc.all, gp.all, appV, elemsOf, roomB, freezeH, fin, Go1_kif, Go1_ret, Go1_normal, Go1_exit, RtF_ret, ex_eq, ex_eq2, tidy, kCond_kc, kc_kif, ↓kif_tr, ↓kif_fl, kif_tr, kif_fl, kif_same, ↓kif_not, ↓kif_or, ↓kifg_tr, ↓kifg_fl, ↓kifg_not, ↓kifg_or, ↓kifg_and, kifg_kif, kifB_t, kifB_f, kifB_ft, kifB_tt, kif_bool, kif_int, mergeL, mergeV, mergeS, mergeRs, kSeq_kif, kBlk_kif, kPost_kif, kNext_kif, kFin_kif, kReg_kif, kOps_kif, kO_kif, kG_kif, kDrw_kif, kW_kif, kOpsW_kif, kRet_kif, map_kif, bind_kif, kWant_t, kWant_f, kWant_kif, ↓execI_pick, kPick_bool, kPick_kif, ↓execI_iadr, kIadr_sl, ↓execI_idxs, kIdxs_str, ↓execI_len, ↓rdB_ld, kRd_ptr, kRd_tptr, kRd_tup, kRd_kif, kOpsW_bs, gt0, st0, gt1, st1, gt2, st2, gt3, st3, gt4, st4, gt5, st5, gt6, st6, gt7, st7, gt8, st8, -kWant_bool, -Int.not_le, -Int.not_lt, -decide_eq_true_eq, -decide_eq_false_iff_not, -List.getD_eq_getElem?_getD, -List.set_cons_succ, -List.set_cons_zero, -Bool.and_eq_true, -Bool.or_eq_true, -Bool.not_eq_eq_eq_not, -Bool.or_eq_false_iff, -Bool.and_eq_false_imp, -Bool.not_eq_true, -Bool.not_eq_false]
    · have e1 : decide (0 < vv) = false := by simp; omega
      rw [if_neg a1, List.append_nil]
      have fin : ∀ d, J13o (bxF nm w ar st rt bl) sc pa (lenV bl) L (k + 1) (T13oe sc pa (lenV bl) (k + 1) [bxF nm w ar st rt bl] d) := fun d => ⟨d, .inl ⟨hl0, rfl⟩⟩
      generalize J13o (bxF nm w ar st rt bl) sc pa (lenV bl) L (k + 1) = II at fin ⊢
      simp only [T13oe, bxF, Int.natCast_add, Int.natCast_one] at fin
      unfold c13_b1 T13oe
      simp (contextual := true) (maxSteps := 10000000) (implicitDefEqProofs := false) [bxF, h1, h3, h4, gw.all, ga.all, gs.all, gr.all, gb.all, gc.all, gp.all, freezeH, execC_loop, -kIter_succ, kCond_kc, kc_kif, ↓kif_tr, ↓kif_fl, kif_tr, kif_fl, kif_same, ↓kif_not, ↓kif_or, ↓kifg_tr, ↓kifg_fl, ↓kifg_not, ↓kifg_or, ↓kifg_and, kifg_kif, kifB_t, kifB_f, kifB_ft, kifB_tt, kif_bool, kif_int, mergeL, mergeV, mergeS, mergeRs, kSeq_kif, kBlk_kif, kPost_kif, kNext_kif, kFin_kif, kReg_kif, kOps_kif, kO_kif, kG_kif, kDrw_kif, kW_kif, kOpsW_kif, kRet_kif, map_kif, bind_kif, kWant_t, kWant_f, kWant_kif, ↓execI_pick, kPick_bool, kPick_kif, ↓execI_iadr, kIadr_sl, ↓execI_idxs, kIdxs_str, ↓execI_len, ↓rdB_ld, kRd_ptr, kRd_tptr, kRd_tup, kRd_kif, kOpsW_bs, gt0, st0, gt1, st1, gt2, st2, gt3, st3, gt4, st4, gt5, st5, gt6, st6, gt7, st7, gt8, st8, -kWant_bool, -Int.not_le, -Int.not_lt, -decide_eq_true_eq, -decide_eq_false_iff_not, -List.getD_eq_getElem?_getD, -List.set_cons_succ, -List.set_cons_zero, -Bool.and_eq_true, -Bool.or_eq_true, -Bool.not_eq_eq_eq_not, -Bool.or_eq_false_iff, -Bool.and_eq_false_imp, -Bool.not_eq_true, -Bool.not_eq_false]
      rw [hl _ _ M1 (by simp (contextual := true) (maxSteps := 10000000) (implicitDefEqProofs := false) [T13e, bxF, bxH, tidy, gw.all, ga.all, gs.all, gr.all, gb.all, gc.all, gp.all, kCond_kc, kc_kif, ↓kif_tr, ↓kif_fl, kif_tr, kif_fl, kif_same, ↓kif_not, ↓kif_or, ↓kifg_tr, ↓kifg_fl, ↓kifg_not, ↓kifg_or, ↓kifg_and, kifg_kif, kifB_t, kifB_f, kifB_ft, kifB_tt, kif_bool, kif_int, mergeL, mergeV, mergeS, mergeRs, kSeq_kif, kBlk_kif, kPost_kif, kNext_kif, kFin_kif, kReg_kif, kOps_kif, kO_kif, kG_kif, kDrw_kif, kW_kif, kOpsW_kif, kRet_kif, map_kif, bind_kif, kWant_t, kWant_f, kWant_kif, ↓execI_pick, kPick_bool, kPick_kif, ↓execI_iadr, kIadr_sl, ↓execI_idxs, kIdxs_str, ↓execI_len, ↓rdB_ld, kRd_ptr, kRd_tptr, kRd_tup, kRd_kif, kOpsW_bs, gt0, st0, gt1, st1, gt2, st2, gt3, st3, gt4, st4, gt5, st5, gt6, st6, gt7, st7, gt8, st8, -kWant_bool, -Int.not_le, -Int.not_lt, -decide_eq_true_eq, -decide_eq_false_iff_not, -List.getD_eq_getElem?_getD, -List.set_cons_succ, -List.set_cons_zero, -Bool.and_eq_true, -Bool.or_eq_true, -Bool.not_eq_eq_eq_not, -Bool.or_eq_false_iff, -Bool.and_eq_false_imp, -Bool.not_eq_true, -Bool.not_eq_false])]
      simp (contextual := true) (maxSteps := 10000000) (implicitDefEqProofs := false) [T13e, c13_b0, bxF, bxH, h1, e1, gw.all, ga.all, gs.all, gr.all, gb.all, gc.all, gp.all, freezeH, fin, Go1_kif, Go1_ret, Go1_normal, Go1_exit, RtF_ret, ex_eq, ex_eq2, tidy, kCond_kc, kc_kif, ↓kif_tr, ↓kif_fl, kif_tr, kif_fl, kif_same, ↓kif_not, ↓kif_or, ↓kifg_tr, ↓kifg_fl, ↓kifg_not, ↓kifg_or, ↓kifg_and, kifg_kif, kifB_t, kifB_f, kifB_ft, kifB_tt, kif_bool, kif_int, mergeL, mergeV, mergeS, mergeRs, kSeq_kif, kBlk_kif, kPost_kif, kNext_kif, kFin_kif, kReg_kif, kOps_kif, kO_kif, kG_kif, kDrw_kif, kW_kif, kOpsW_kif, kRet_kif, map_kif, bind_kif, kWant_t, kWant_f, kWant_kif, ↓execI_pick, kPick_bool, kPick_kif, ↓execI_iadr, kIadr_sl, ↓execI_idxs, kIdxs_str, ↓execI_len, ↓rdB_ld, kRd_ptr, kRd_tptr, kRd_tup, kRd_kif, kOpsW_bs, gt0, st0, gt1, st1, gt2, st2, gt3, st3, gt4, st4, gt5, st5, gt6, st6, gt7, st7, gt8, st8, -kWant_bool, -Int.not_le, -Int.not_lt, -decide_eq_true_eq, -decide_eq_false_iff_not, -List.getD_eq_getElem?_getD, -List.set_cons_succ, -List.set_cons_zero, -Bool.and_eq_true, -Bool.or_eq_true, -Bool.not_eq_eq_eq_not, -Bool.or_eq_false_iff, -Bool.and_eq_false_imp, -Bool.not_eq_true, -Bool.not_eq_false]
  · rcases loop_go (I := fun i t => J13 (bxF nm w ar st rt bl) sc pa (lenV bl) L k i (vis pa k i) (cyc bl sc pa (lenV pa) k i) t) (t0 := T13n sc pa L.length (lenV bl) (lenV pa) k 0 [bxF nm w ar st rt bl, bxR L, bxH k 0 0] true) (pre := tidy [1, 2, 3, 7, 8, 9, 13, 14, 20, 21] 0) (fun i t hi ht => g13i K hK nm w ar st rt bl h sc pa hs hp hn L k hk hsc (ho k (by omega)) i hi t ht) (fun t ht => x13i (callF tbl pu (K + 1)) (K + 1) _ sc pa _ L k _ _ t ht) ⟨true, .inr ⟨hl0, rfl⟩⟩ with ⟨t, ⟨d2, ht⟩, hl⟩ | ⟨r, hr, hl⟩
    case inr => exact hr.elim
    rcases ht with ⟨h5, -⟩ | ⟨-, rfl⟩
    · rw [h5] at hl0; simp at hl0
    generalize vis pa k (lenV pa) = vv at *
    generalize cyc bl sc pa (lenV pa) k (lenV pa) = cc at *
    have hll : (L.map rwR).length = L.length := by simp
    by_cases a1 : 0 < vv
    · have e1 : decide (0 < vv) = true := by simp [a1]
      rw [if_pos a1]
      have r1 : (L.length + 1) * 24 ≤ 140737488351232 := by omega
      have r2 : L.length + 1 ≤ 140737488351232 := by omega
      have lg : ¬ L.length + 1 ≤ L.length := by omega
      have tak : (L.map rwR).take L.length = L.map rwR := List.take_of_length_le (by omega)
      have dr : (L.map rwR).drop (L.length + 1) = [] := List.drop_eq_nil_of_le (by omega)
      have fin : ∀ d, J13o (bxF nm w ar st rt bl) sc pa (lenV bl) (L ++ [((k : Int), vv, cc)]) (k + 1) (T13on sc pa (L.length + 1) (lenV bl) (k + 1) [bxF nm w ar st rt bl, bxR (L ++ [((k : Int), vv, cc)])] d) := fun d => ⟨d, .inr ⟨by simp, by simp⟩⟩
      generalize J13o (bxF nm w ar st rt bl) sc pa (lenV bl) (L ++ [((k : Int), vv, cc)]) (k + 1) = II at fin ⊢
      simp only [T13on, bxF, bxR, rwR, List.map_append, List.map_cons, List.map_nil, Int.natCast_add, Int.natCast_one] at fin
      unfold c13_b1 T13on
      simp (contextual := true) (maxSteps := 10000000) (implicitDefEqProofs := false) [bxF, h1, h3, h4, gw.all, ga.all, gs.all, gr.all, gb.all, gc.all, gp.all, freezeH, execC_loop, -kIter_succ, bxR_ren, bxR_box, kCond_kc, kc_kif, ↓kif_tr, ↓kif_fl, kif_tr, kif_fl, kif_same, ↓kif_not, ↓kif_or, ↓kifg_tr, ↓kifg_fl, ↓kifg_not, ↓kifg_or, ↓kifg_and, kifg_kif, kifB_t, kifB_f, kifB_ft, kifB_tt, kif_bool, kif_int, mergeL, mergeV, mergeS, mergeRs, kSeq_kif, kBlk_kif, kPost_kif, kNext_kif, kFin_kif, kReg_kif, kOps_kif, kO_kif, kG_kif, kDrw_kif, kW_kif, kOpsW_kif, kRet_kif, map_kif, bind_kif, kWant_t, kWant_f, kWant_kif, ↓execI_pick, kPick_bool, kPick_kif, ↓execI_iadr, kIadr_sl, ↓execI_idxs, kIdxs_str, ↓execI_len, ↓rdB_ld, kRd_ptr, kRd_tptr, kRd_tup, kRd_kif, kOpsW_bs, gt0, st0, gt1, st1, gt2, st2, gt3, st3, gt4, st4, gt5, st5, gt6, st6, gt7, st7, gt8, st8, -kWant_bool, -Int.not_le, -Int.not_lt, -decide_eq_true_eq, -decide_eq_false_iff_not, -List.getD_eq_getElem?_getD, -List.set_cons_succ, -List.set_cons_zero, -Bool.and_eq_true, -Bool.or_eq_true, -Bool.not_eq_eq_eq_not, -Bool.or_eq_false_iff, -Bool.and_eq_false_imp, -Bool.not_eq_true, -Bool.not_eq_false]
      rw [hl _ _ M1 (by simp (contextual := true) (maxSteps := 10000000) (implicitDefEqProofs := false) [T13n, bxF, bxH, tidy, gw.all, ga.all, gs.all, gr.all, gb.all, gc.all, gp.all, bxR_ren, bxR_box, kCond_kc, kc_kif, ↓kif_tr, ↓kif_fl, kif_tr, kif_fl, kif_same, ↓kif_not, ↓kif_or, ↓kifg_tr, ↓kifg_fl, ↓kifg_not, ↓kifg_or, ↓kifg_and, kifg_kif, kifB_t, kifB_f, kifB_ft, kifB_tt, kif_bool, kif_int, mergeL, mergeV, mergeS, mergeRs, kSeq_kif, kBlk_kif, kPost_kif, kNext_kif, kFin_kif, kReg_kif, kOps_kif, kO_kif, kG_kif, kDrw_kif, kW_kif, kOpsW_kif, kRet_kif, map_kif, bind_kif, kWant_t, kWant_f, kWant_kif, ↓execI_pick, kPick_bool, kPick_kif, ↓execI_iadr, kIadr_sl, ↓execI_idxs, kIdxs_str, ↓execI_len, ↓rdB_ld, kRd_ptr, kRd_tptr, kRd_tup, kRd_kif, kOpsW_bs, gt0, st0, gt1, st1, gt2, st2, gt3, st3, gt4, st4, gt5, st5, gt6, st6, gt7, st7, gt8, st8, -kWant_bool, -Int.not_le, -Int.not_lt, -decide_eq_true_eq, -decide_eq_false_iff_not, -List.getD_eq_getElem?_getD, -List.set_cons_succ, -List.set_cons_zero, -Bool.and_eq_true, -Bool.or_eq_true, -Bool.not_eq_eq_eq_not, -Bool.or_eq_false_iff, -Bool.and_eq_false_imp, -Bool.not_eq_true, -Bool.not_eq_false])]
      unfold bxR
      generalize L.map rwR = os at *
      simp (contextual := true) (maxSteps := 10000000) (implicitDefEqProofs := false) [T13n, c13_b0, bxF, bxH, h1, e1, hll, r1, r2, lg, tak, dr, gw.all, ga.all, gs.all, gr.all, gb.all, gc.all, gp.all, appV, elemsOf, roomB, freezeH, fin, Go1_kif, Go1_ret, Go1_normal, Go1_exit, RtF_ret, ex_eq, ex_eq2, tidy, kCond_kc, kc_kif, ↓kif_tr, ↓kif_fl, kif_tr, kif_fl, kif_same, ↓kif_not, ↓kif_or, ↓kifg_tr, ↓kifg_fl, ↓kifg_not, ↓kifg_or, ↓kifg_and, kifg_kif, kifB_t, kifB_f, kifB_ft, kifB_tt, kif_bool, kif_int, mergeL, mergeV, mergeS, mergeRs, kSeq_kif, kBlk_kif, kPost_kif, kNext_kif, kFin_kif, kReg_kif, kOps_kif, kO_kif, kG_kif, kDrw_kif, kW_kif, kOpsW_kif, kRet_kif, map_kif, bind_kif, kWant_t, kWant_f, kWant_kif, ↓execI_pick, kPick_bool, kPick_kif, ↓execI_iadr, kIadr_sl, ↓execI_idxs, kIdxs_str, ↓execI_len, ↓rdB_ld, kRd_ptr, kRd_tptr, kRd_tup, kRd_kif, kOpsW_bs, gt0, st0, gt1, st1, gt2, st2, gt3, st3, gt4, st4, gt5, st5, gt6, st6, gt7, st7, gt8, st8, -kWant_bool, -Int.not_le, -Int.not_lt, -decide_eq_true_eq, -decide_eq_false_iff_not, -List.getD_eq_getElem?_getD, -List.set_cons_succ, -List.set_cons_zero, -Bool.and_eq_true, -Bool.or_eq_true, -Bool.not_eq_eq_eq_not, -Bool.or_eq_false_iff, -Bool.and_eq_false_imp, -Bool.not_eq_true, -Bool.not_eq_false]
    · have e1 : decide (0 < vv) = false := by simp; omega
      rw [if_neg a1, List.append_nil]
      have fin : ∀ d, J13o (bxF nm w ar st rt bl) sc pa (lenV bl) L (k + 1) (T13on sc pa L.length (lenV bl) (k + 1) [bxF nm w ar st rt bl, bxR L] d) := fun d => ⟨d, .inr ⟨hl0, rfl⟩⟩
      generalize J13o (bxF nm w ar st rt bl) sc pa (lenV bl) L (k + 1) = II at fin ⊢
      simp only [T13on, bxF, Int.natCast_add, Int.natCast_one] at fin
      unfold c13_b1 T13on
      simp (contextual := true) (maxSteps := 10000000) (implicitDefEqProofs := false) [bxF, h1, h3, h4, gw.all, ga.all, gs.all, gr.all, gb.all, gc.all, gp.all, freezeH, execC_loop, -kIter_succ, bxR_ren, bxR_box, kCond_kc, kc_kif, ↓kif_tr, ↓kif_fl, kif_tr, kif_fl, kif_same, ↓kif_not, ↓kif_or, ↓kifg_tr, ↓kifg_fl, ↓kifg_not, ↓kifg_or, ↓kifg_and, kifg_kif, kifB_t, kifB_f, kifB_ft, kifB_tt, kif_bool, kif_int, mergeL, mergeV, mergeS, mergeRs, kSeq_kif, kBlk_kif, kPost_kif, kNext_kif, kFin_kif, kReg_kif, kOps_kif, kO_kif, kG_kif, kDrw_kif, kW_kif, kOpsW_kif, kRet_kif, map_kif, bind_kif, kWant_t, kWant_f, kWant_kif, ↓execI_pick, kPick_bool, kPick_kif, ↓execI_iadr, kIadr_sl, ↓execI_idxs, kIdxs_str, ↓execI_len, ↓rdB_ld, kRd_ptr, kRd_tptr, kRd_tup, kRd_kif, kOpsW_bs, gt0, st0, gt1, st1, gt2, st2, gt3, st3, gt4, st4, gt5, st5, gt6, st6, gt7, st7, gt8, st8, -kWant_bool, -Int.not_le, -Int.not_lt, -decide_eq_true_eq, -decide_eq_false_iff_not, -List.getD_eq_getElem?_getD, -List.set_cons_succ, -List.set_cons_zero, -Bool.and_eq_true, -Bool.or_eq_true, -Bool.not_eq_eq_eq_not, -Bool.or_eq_false_iff, -Bool.and_eq_false_imp, -Bool.not_eq_true, -Bool.not_eq_false]
      rw [hl _ _ M1 (by simp (contextual := true) (maxSteps := 10000000) (implicitDefEqProofs := false) [T13n, bxF, bxH, tidy, gw.all, ga.all, gs.all, gr.all, gb.all, gc.all, gp.all, bxR_ren, bxR_box, kCond_kc, kc_kif, ↓kif_tr, ↓kif_fl, kif_tr, kif_fl, kif_same, ↓kif_not, ↓kif_or, ↓kifg_tr, ↓kifg_fl, ↓kifg_not, ↓kifg_or, ↓kifg_and, kifg_kif, kifB_t, kifB_f, kifB_ft, kifB_tt, kif_bool, kif_int, mergeL, mergeV, mergeS, mergeRs, kSeq_kif, kBlk_kif, kPost_kif, kNext_kif, kFin_kif, kReg_kif, kOps_kif, kO_kif, kG_kif, kDrw_kif, kW_kif, kOpsW_kif, kRet_kif, map_kif, bind_kif, kWant_t, kWant_f, kWant_kif, ↓execI_pick, kPick_bool, kPick_kif, ↓execI_iadr, kIadr_sl, ↓execI_idxs, kIdxs_str, ↓execI_len, ↓rdB_ld, kRd_ptr, kRd_tptr, kRd_tup, kRd_kif, kOpsW_bs, gt0, st0, gt1, st1, gt2, st2, gt3, st3, gt4, st4, gt5, st5, gt6, st6, gt7, st7, gt8, st8, -kWant_bool, -Int.not_le, -Int.not_lt, -decide_eq_true_eq, -decide_eq_false_iff_not, -List.getD_eq_getElem?_getD, -List.set_cons_succ, -List.set_cons_zero, -Bool.and_eq_true, -Bool.or_eq_true, -Bool.not_eq_eq_eq_not, -Bool.or_eq_false_iff, -Bool.and_eq_false_imp, -Bool.not_eq_true, -Bool.not_eq_false])]
      simp (contextual := true) (maxSteps := 10000000) (implicitDefEqProofs := false) [T13n, c13_b0, bxF, bxH, h1, e1, gw.all, ga.all, gs.all, gr.all, gb.all, gc.all, gp.all, freezeH, bxR_ren, bxR_box, fin, Go1_kif, Go1_ret, Go1_normal, Go1_exit, RtF_ret, ex_eq, ex_eq2, tidy, kCond_kc, kc_kif, ↓kif_tr, ↓kif_fl, kif_tr, kif_fl, kif_same, ↓kif_not, ↓kif_or, ↓kifg_tr, ↓kifg_fl, ↓kifg_not, ↓kifg_or, ↓kifg_and, kifg_kif, kifB_t, kifB_f, kifB_ft, kifB_tt, kif_bool, kif_int, mergeL, mergeV, mergeS, mergeRs, kSeq_kif, kBlk_kif, kPost_kif, kNext_kif, kFin_kif, kReg_kif, kOps_kif, kO_kif, kG_kif, kDrw_kif, kW_kif, kOpsW_kif, kRet_kif, map_kif, bind_kif, kWant_t, kWant_f, kWant_kif, ↓execI_pick, kPick_bool, kPick_kif, ↓execI_iadr, kIadr_sl, ↓execI_idxs, kIdxs_str, ↓execI_len, ↓rdB_ld, kRd_ptr, kRd_tptr, kRd_tup, kRd_kif, kOpsW_bs, gt0, st0, gt1, st1, gt2, st2, gt3, st3, gt4, st4, gt5, st5, gt6, st6, gt7, st7, gt8, st8, -kWant_bool, -Int.not_le, -Int.not_lt, -decide_eq_true_eq, -decide_eq_false_iff_not, -List.getD_eq_getElem?_getD, -List.set_cons_succ, -List.set_cons_zero, -Bool.and_eq_true, -Bool.or_eq_true, -Bool.not_eq_eq_eq_not, -Bool.or_eq_false_iff, -Bool.and_eq_false_imp, -Bool.not_eq_true, -Bool.not_eq_false]
end Go.AM.Ytegibclhopenmaa
