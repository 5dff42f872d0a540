/- cycles.Issues: its rounds. -/
import Derived.Test.YtegibclhopenmaaFmD
set_option linter.unusedVariables false
set_option linter.unusedSimpArgs false
namespace Go.AM.Ytegibclhopenmaa
open Go Go.AM
set_option maxRecDepth 100000
set_option maxHeartbeats 0
attribute [local congr] kif_congr
def ivs (n : Int) : List V := [.int .i64 n]
/-- the cycles in which the visits of a stretch begin -/
def isB (ii β : Int) (v : Nat) : List Int := (List.range v).map fun (k : Nat) => β + (k : Int) * ii
theorem isB_succ (ii β : Int) (v : Nat) : isB ii β (v + 1) = isB ii β v ++ [β + (v : Int) * ii] := by
  simp [isB, List.range_succ]
theorem isB_len (ii β : Int) (v : Nat) : (isB ii β v).length = v := by simp [isB]
def bxS (b : Int) (v : Nat) : Blk := ⟨2, [[.int .i64 b, .int .i64 v]], 0, true, true⟩
def bxO (L : List Int) : Blk := ⟨1, L.map ivs, 0, false, true⟩
def bxL (S : List (Int × Nat)) : Blk := ⟨2, S.map rwS, 0, false, true⟩
/-- the list that is built: its value, the numbers of the blocks behind it -/
def T9e (sc : V) (β : Int) (m s : Nat) (v k : Nat) (H : Heap) (d : Bool) : St := ⟨[.undef, sc, .undef, .ptr 0 1 0 0, .undef, .undef, .undef, .undef, .undef, .undef, .nils, .int .i64 β, .undef, .ptr 1 1 0 0, .undef, .undef, .undef, .undef, .undef, .undef, .undef, .undef, .undef, .undef, .undef, .sl 2 2 m 0 m, .int .i64 m, .int .i64 s, .undef, .undef, .undef, .undef, .int .i64 v, .int .i64 k, .undef, .undef, .undef, .undef, .undef, .undef, .undef, .undef, .undef, .undef, .undef, .undef, .undef, .undef, .undef, .undef, .undef, .undef, .undef, .undef, .undef, .undef, .undef, .undef], H, d⟩
def T9n (sc : V) (l : Nat) (β : Int) (m s : Nat) (v k : Nat) (H : Heap) (d : Bool) : St := ⟨[.undef, sc, .undef, .ptr 0 1 0 0, .undef, .undef, .undef, .undef, .undef, .undef, .sl 1 1 l 0 l, .int .i64 β, .undef, .ptr 2 1 0 0, .undef, .undef, .undef, .undef, .undef, .undef, .undef, .undef, .undef, .undef, .undef, .sl 2 3 m 0 m, .int .i64 m, .int .i64 s, .undef, .undef, .undef, .undef, .int .i64 v, .int .i64 k, .undef, .undef, .undef, .undef, .undef, .undef, .undef, .undef, .undef, .undef, .undef, .undef, .undef, .undef, .undef, .undef, .undef, .undef, .undef, .undef, .undef, .undef, .undef, .undef], H, d⟩
def I9i (B : Blk) (sc : V) (S : List (Int × Nat)) (β : Int) (b : Int) (s v : Nat) (L : List Int) (t : St) (k : Nat) : Prop := ∃ d, (L = [] ∧ t = T9e sc β S.length s v k [B, bxS b v, bxL S] d) ∨ (0 < L.length ∧ t = T9n sc L.length β S.length s v k [B, bxO L, bxS b v, bxL S] d)
theorem g9i (call : CallT) (K : Nat) (nm : ByteArray) (w ar st rt bl : V) (h : OkF nm w ar st rt bl) (sc : V) (hs : S28 [sc]) (S : List (Int × Nat)) (β b : Int) (s v : Nat) (L0 : List Int) (hb : 0 ≤ b ∧ b < lenV sc) (ho : okS sc b.toNat) (hv : v ≤ 60) (hβ : 0 ≤ β ∧ β ≤ 100000000) (hL0 : L0.length ≤ 3600) (hS : S.length ≤ 60)
    (k : Nat) (hk : k < v) (t : St) (ht : I9i (bxF nm w ar st rt bl) sc S β b s v (L0 ++ isB (ic sc b.toNat 0) β k) t k) :
    Go1 (tidy [1, 3, 10, 11, 13, 25, 26, 27, 32, 33] 0) (fun t => I9i (bxF nm w ar st rt bl) sc S β b s v (L0 ++ isB (ic sc b.toNat 0) β (k + 1)) t (k + 1)) (fun _ => False) (execC call pu 0 K c9_b0 t) := by
  obtain ⟨d, ht⟩ := ht
  have gw := LS22 h.w
  have ga := LS23 h.ar
  have gs := LS24 h.st
  have gr := LS22 h.rt
  have gb := LS25 h.bl
  have gc := LS28 hs
  have h1 : IntKind.i64.wrap ((k : Int) + 1) = (k : Int) + 1 := wrap64 (by omega) (by omega)
  have h4 : decide (k < v) = true := by simp; omega
  have c1 : decide (b < 0) = false := by simp; omega
  have c2 : decide ((lenV sc : Int) ≤ b) = false := by simp; omega
  have hr := sc_row hs c1 c2
  obtain ⟨o1, o2, o3, o4⟩ := ho
  have m1 := mul_bd (a := (k : Int)) (by omega) (by omega) o1 o2
  have w1 : IntKind.i64.wrap ((k : Int) * ic sc b.toNat 0) = (k : Int) * ic sc b.toNat 0 := wrap64 (by omega) (by omega)
  have w2 : IntKind.i64.wrap (β + (k : Int) * ic sc b.toNat 0) = β + (k : Int) * ic sc b.toNat 0 := wrap64 (by omega) (by omega)
  have hL : L0 ++ isB (ic sc b.toNat 0) β (k + 1) = (L0 ++ isB (ic sc b.toNat 0) β k) ++ [β + (k : Int) * ic sc b.toNat 0] := by rw [isB_succ, List.append_assoc]
  have hlen : (L0 ++ isB (ic sc b.toNat 0) β k).length ≤ 3660 := by rw [List.length_append, isB_len]; omega
  rw [hL]
  generalize L0 ++ isB (ic sc b.toNat 0) β k = L at *
  generalize hx : β + (k : Int) * ic sc b.toNat 0 = x at *
  have hSl : (S.map rwS).length = S.length := by simp
  rcases ht with ⟨rfl, rfl⟩ | ⟨hl0, rfl⟩
  · have fin : ∀ d, (fun t => I9i (bxF nm w ar st rt bl) sc S β b s v ([] ++ [x]) t (k + 1)) (T9n sc 1 β S.length s v (k + 1) [bxF nm w ar st rt bl, bxO [x], bxS b v, bxL S] d) := fun d => ⟨d, .inr ⟨by simp, rfl⟩⟩
    generalize (fun t => I9i (bxF nm w ar st rt bl) sc S β b s v ([] ++ [x]) t (k + 1)) = II at fin ⊢
    simp only [T9n, bxF, bxO, bxS, bxL, ivs, List.map_cons, List.map_nil, Int.natCast_add, Int.natCast_one] at fin
    unfold c9_b0 T9e bxF bxS bxL
    generalize S.map rwS = es at *
    simp (contextual := true) (maxSteps := 10000000) (implicitDefEqProofs := false) [h1, h4, c1, c2, hr, w1, w2, hx, hSl, gw.all, ga.all, gs.all, gr.all, gb.all, gc.all, kIadr_LS gc, appV, elemsOf, roomB, freezeH, fin, Go1_kif, Go1_ret, Go1_normal, Go1_exit, RtF_ret, ex_eq, ex_eq2, tidy, kCond_kc, kc_kif, ↓kif_tr, ↓kif_fl, kif_tr, kif_fl, kif_same, ↓kif_not, ↓kif_or, ↓kifg_tr, ↓kifg_fl, ↓kifg_not, ↓kifg_or, ↓kifg_and, kifg_kif, kifB_t, kifB_f, kifB_ft, kifB_tt, kif_bool, kif_int, mergeL, mergeV, mergeS, mergeRs, kSeq_kif, kBlk_kif, kPost_kif, kNext_kif, kFin_kif, kReg_kif, kOps_kif, kO_kif, kG_kif, kDrw_kif, kW_kif, kOpsW_kif, kRet_kif, map_kif, bind_kif, kWant_t, kWant_f, kWant_kif, ↓execI_pick, kPick_bool, kPick_kif, ↓execI_iadr, kIadr_sl, ↓execI_idxs, kIdxs_str, ↓execI_len, ↓rdB_ld, kRd_ptr, kRd_tptr, kRd_tup, kRd_kif, kOpsW_bs, gt0, st0, gt1, st1, gt2, st2, gt3, st3, gt4, st4, gt5, st5, gt6, st6, gt7, st7, gt8, st8, -kWant_bool, -Int.not_le, -Int.not_lt, -decide_eq_true_eq, -decide_eq_false_iff_not, -List.getD_eq_getElem?_getD, -List.set_cons_succ, -List.set_cons_zero, -Bool.and_eq_true, -Bool.or_eq_true, -Bool.not_eq_eq_eq_not, -Bool.or_eq_false_iff, -Bool.and_eq_false_imp, -Bool.not_eq_true, -Bool.not_eq_false]
  · have r1 : (L.length + 1) * 8 ≤ 140737488351232 := by omega
    have r2 : L.length + 1 ≤ 140737488351232 := by omega
    have lg : ¬ L.length + 1 ≤ L.length := by omega
    have hl : (L.map ivs).length = L.length := by simp
    have tak : (L.map ivs).take L.length = L.map ivs := List.take_of_length_le (by omega)
    have dr : (L.map ivs).drop (L.length + 1) = [] := List.drop_eq_nil_of_le (by omega)
    have fin : ∀ d, (fun t => I9i (bxF nm w ar st rt bl) sc S β b s v (L ++ [x]) t (k + 1)) (T9n sc (L.length + 1) β S.length s v (k + 1) [bxF nm w ar st rt bl, bxO (L ++ [x]), bxS b v, bxL S] d) := fun d => ⟨d, .inr ⟨by simp, by simp⟩⟩
    generalize (fun t => I9i (bxF nm w ar st rt bl) sc S β b s v (L ++ [x]) t (k + 1)) = II at fin ⊢
    simp only [T9n, bxF, bxO, bxS, bxL, List.map_append, List.map_cons, List.map_nil, Int.natCast_add, Int.natCast_one] at fin
    unfold c9_b0 T9n bxF bxO bxS bxL
    generalize S.map rwS = es at *
    generalize L.map ivs = os at *
    simp only [ivs] at fin
    simp (contextual := true) (maxSteps := 10000000) (implicitDefEqProofs := false) [h1, h4, c1, c2, hr, w1, w2, hx, hSl, hl, r1, r2, lg, tak, dr, gw.all, ga.all, gs.all, gr.all, gb.all, gc.all, kIadr_LS gc, appV, elemsOf, roomB, freezeH, fin, Go1_kif, Go1_ret, Go1_normal, Go1_exit, RtF_ret, ex_eq, ex_eq2, tidy, kCond_kc, kc_kif, ↓kif_tr, ↓kif_fl, kif_tr, kif_fl, kif_same, ↓kif_not, ↓kif_or, ↓kifg_tr, ↓kifg_fl, ↓kifg_not, ↓kifg_or, ↓kifg_and, kifg_kif, kifB_t, kifB_f, kifB_ft, kifB_tt, kif_bool, kif_int, mergeL, mergeV, mergeS, mergeRs, kSeq_kif, kBlk_kif, kPost_kif, kNext_kif, kFin_kif, kReg_kif, kOps_kif, kO_kif, kG_kif, kDrw_kif, kW_kif, kOpsW_kif, kRet_kif, map_kif, bind_kif, kWant_t, kWant_f, kWant_kif, ↓execI_pick, kPick_bool, kPick_kif, ↓execI_iadr, kIadr_sl, ↓execI_idxs, kIdxs_str, ↓execI_len, ↓rdB_ld, kRd_ptr, kRd_tptr, kRd_tup, kRd_kif, kOpsW_bs, gt0, st0, gt1, st1, gt2, st2, gt3, st3, gt4, st4, gt5, st5, gt6, st6, gt7, st7, gt8, st8, -kWant_bool, -Int.not_le, -Int.not_lt, -decide_eq_true_eq, -decide_eq_false_iff_not, -List.getD_eq_getElem?_getD, -List.set_cons_succ, -List.set_cons_zero, -Bool.and_eq_true, -Bool.or_eq_true, -Bool.not_eq_eq_eq_not, -Bool.or_eq_false_iff, -Bool.and_eq_false_imp, -Bool.not_eq_true, -Bool.not_eq_false]
theorem x9i (call : CallT) (K : Nat) (B : Blk) (sc : V) (S : List (Int × Nat)) (β b : Int) (s v : Nat) (L : List Int) (t : St) (ht : I9i B sc S β b s v L t v) : Nn (execC call pu 0 K c9_b0 t) := by
  obtain ⟨d, ht⟩ := ht
  rcases ht with ⟨rfl, rfl⟩ | ⟨hl0, rfl⟩
  · unfold c9_b0 T9e
    simp (contextual := true) (maxSteps := 10000000) (implicitDefEqProofs := false) [Nn_exit, kCond_kc, kc_kif, ↓kif_tr, ↓kif_fl, kif_tr, kif_fl, kif_same, ↓kif_not, ↓kif_or, ↓kifg_tr, ↓kifg_fl, ↓kifg_not, ↓kifg_or, ↓kifg_and, kifg_kif, kifB_t, kifB_f, kifB_ft, kifB_tt, kif_bool, kif_int, mergeL, mergeV, mergeS, mergeRs, kSeq_kif, kBlk_kif, kPost_kif, kNext_kif, kFin_kif, kReg_kif, kOps_kif, kO_kif, kG_kif, kDrw_kif, kW_kif, kOpsW_kif, kRet_kif, map_kif, bind_kif, kWant_t, kWant_f, kWant_kif, ↓execI_pick, kPick_bool, kPick_kif, ↓execI_iadr, kIadr_sl, ↓execI_idxs, kIdxs_str, ↓execI_len, ↓rdB_ld, kRd_ptr, kRd_tptr, kRd_tup, kRd_kif, kOpsW_bs, gt0, st0, gt1, st1, gt2, st2, gt3, st3, gt4, st4, gt5, st5, gt6, st6, gt7, st7, gt8, st8, -kWant_bool, -Int.not_le, -Int.not_lt, -decide_eq_true_eq, -decide_eq_false_iff_not, -List.getD_eq_getElem?_getD, -List.set_cons_succ, -List.set_cons_zero, -Bool.and_eq_true, -Bool.or_eq_true, -Bool.not_eq_eq_eq_not, -Bool.or_eq_false_iff, -Bool.and_eq_false_imp, -Bool.not_eq_true, -Bool.not_eq_false]
  · unfold c9_b0 T9n
    simp (contextual := true) (maxSteps := 10000000) (implicitDefEqProofs := false) [Nn_exit, kCond_kc, kc_kif, ↓kif_tr, ↓kif_fl, kif_tr, kif_fl, kif_same, ↓kif_not, ↓kif_or, ↓kifg_tr, ↓kifg_fl, ↓kifg_not, ↓kifg_or, ↓kifg_and, kifg_kif, kifB_t, kifB_f, kifB_ft, kifB_tt, kif_bool, kif_int, mergeL, mergeV, mergeS, mergeRs, kSeq_kif, kBlk_kif, kPost_kif, kNext_kif, kFin_kif, kReg_kif, kOps_kif, kO_kif, kG_kif, kDrw_kif, kW_kif, kOpsW_kif, kRet_kif, map_kif, bind_kif, kWant_t, kWant_f, kWant_kif, ↓execI_pick, kPick_bool, kPick_kif, ↓execI_iadr, kIadr_sl, ↓execI_idxs, kIdxs_str, ↓execI_len, ↓rdB_ld, kRd_ptr, kRd_tptr, kRd_tup, kRd_kif, kOpsW_bs, gt0, st0, gt1, st1, gt2, st2, gt3, st3, gt4, st4, gt5, st5, gt6, st6, gt7, st7, gt8, st8, -kWant_bool, -Int.not_le, -Int.not_lt, -decide_eq_true_eq, -decide_eq_false_iff_not, -List.getD_eq_getElem?_getD, -List.set_cons_succ, -List.set_cons_zero, -Bool.and_eq_true, -Bool.or_eq_true, -Bool.not_eq_eq_eq_not, -Bool.or_eq_false_iff, -Bool.and_eq_false_imp, -Bool.not_eq_true, -Bool.not_eq_false]
end Go.AM.Ytegibclhopenmaa

set_option linter.unusedVariables false
set_option linter.unusedSimpArgs false
namespace Go.AM.Ytegibclhopenmaa
open Go Go.AM
set_option maxRecDepth 100000
set_option maxHeartbeats 0
attribute [local congr] kif_congr
/-- the cycles of the visits of the first stretches, and the cycle after them -/
def isF (bl sc : V) (S : List (Int × Nat)) : Nat → List Int × Int
  | 0 => ([], 1)
  | s + 1 => ((isF bl sc S s).1 ++ isB (ic sc (S.getD s (0, 0)).1.toNat 0) (isF bl sc S s).2 (S.getD s (0, 0)).2, (isF bl sc S s).2 + strL bl sc (S.getD s (0, 0)).1 (S.getD s (0, 0)).2)
def OkS (sc : V) (S : List (Int × Nat)) : Prop := S.length ≤ 60 ∧ ∀ s, s < S.length → 0 ≤ (S.getD s (0, 0)).1 ∧ (S.getD s (0, 0)).1 < lenV sc ∧ 1 ≤ (S.getD s (0, 0)).2 ∧ (S.getD s (0, 0)).2 ≤ 60
theorem strL_bd {bl sc : V} {b v : Int} (ho : okS sc b.toNat) (h1 : 1 ≤ v) (h2 : v ≤ 60) : 0 ≤ strL bl sc b v ∧ strL bl sc b v ≤ 60000 := by
  obtain ⟨o1, o2, o3, o4⟩ := ho
  have m1 := mul_bd (a := v) (by omega) h2 o3 o4
  have m2 : 0 ≤ (v - 1) * ic sc b.toNat 0 ∧ (v - 1) * ic sc b.toNat 0 ≤ 59000 := by
    refine ⟨Int.mul_nonneg (by omega) o1, ?_⟩
    calc (v - 1) * ic sc b.toNat 0 ≤ 59 * ic sc b.toNat 0 := Int.mul_le_mul_of_nonneg_right (by omega) o1
      _ ≤ 59 * 1000 := Int.mul_le_mul_of_nonneg_left o2 (by decide)
  unfold strL
  split
  · omega
  · omega
theorem isF_bd {bl sc : V} {S : List (Int × Nat)} (hS : OkS sc S) (ho : ∀ j, j < lenV sc → okS sc j) : ∀ s, s ≤ S.length → (isF bl sc S s).1.length ≤ 60 * s ∧ s ≤ (isF bl sc S s).1.length ∧ 1 ≤ (isF bl sc S s).2 ∧ (isF bl sc S s).2 ≤ 1 + 60000 * s
  | 0, _ => by simp [isF]
  | s + 1, h => by
    have ih := isF_bd hS ho (bl := bl) s (by omega)
    obtain ⟨h1, h2, h3, h4⟩ := hS.2 s (by omega)
    have hb := strL_bd (bl := bl) (sc := sc) (b := (S.getD s (0, 0)).1) (v := ((S.getD s (0, 0)).2 : Int)) (ho _ (by omega)) (by omega) (by omega)
    simp only [isF, List.length_append, isB_len]
    omega
def T9oe (sc : V) (β : Int) (m s : Nat) (H : Heap) (d : Bool) : St := ⟨[.undef, sc, .undef, .ptr 0 1 0 0, .undef, .undef, .undef, .undef, .undef, .undef, .nils, .int .i64 β, .undef, .undef, .undef, .undef, .undef, .undef, .undef, .undef, .undef, .undef, .undef, .undef, .undef, .sl 2 1 m 0 m, .int .i64 m, .int .i64 s, .undef, .undef, .undef, .undef, .undef, .undef, .undef, .undef, .undef, .undef, .undef, .undef, .undef, .undef, .undef, .undef, .undef, .undef, .undef, .undef, .undef, .undef, .undef, .undef, .undef, .undef, .undef, .undef, .undef, .undef], H, d⟩
def T9on (sc : V) (l : Nat) (β : Int) (m s : Nat) (H : Heap) (d : Bool) : St := ⟨[.undef, sc, .undef, .ptr 0 1 0 0, .undef, .undef, .undef, .undef, .undef, .undef, .sl 1 1 l 0 l, .int .i64 β, .undef, .undef, .undef, .undef, .undef, .undef, .undef, .undef, .undef, .undef, .undef, .undef, .undef, .sl 2 2 m 0 m, .int .i64 m, .int .i64 s, .undef, .undef, .undef, .undef, .undef, .undef, .undef, .undef, .undef, .undef, .undef, .undef, .undef, .undef, .undef, .undef, .undef, .undef, .undef, .undef, .undef, .undef, .undef, .undef, .undef, .undef, .undef, .undef, .undef, .undef], H, d⟩
def I9o (B : Blk) (bl sc : V) (S : List (Int × Nat)) (s : Nat) (t : St) : Prop := ∃ d, (s = 0 ∧ t = T9oe sc 1 S.length s [B, bxL S] d) ∨ (0 < s ∧ t = T9on sc (isF bl sc S s).1.length (isF bl sc S s).2 S.length s [B, bxO (isF bl sc S s).1, bxL S] d)
theorem g9o (K : Nat) (hK : BIG ≤ K) (nm : ByteArray) (w ar st rt bl : V) (h : OkF nm w ar st rt bl) (sc : V) (hs : S28 [sc]) (S : List (Int × Nat)) (hS : OkS sc S) (ho : ∀ j, j < lenV sc → okS sc j) (s : Nat) (hsl : s < S.length) (t : St) (ht : I9o (bxF nm w ar st rt bl) bl sc S s t) :
    Go1 (tidy [1, 3, 10, 11, 25, 26, 27] 0) (I9o (bxF nm w ar st rt bl) bl sc S (s + 1)) (fun _ => False) (execC (callF tbl pu (K + 2)) pu 0 (K + 2) c9_b1 t) := by
  obtain ⟨d, ht⟩ := ht
  have gw := LS22 h.w
  have ga := LS23 h.ar
  have gs := LS24 h.st
  have gr := LS22 h.rt
  have gb := LS25 h.bl
  have gc := LS28 hs
  obtain ⟨f1, f2, f3, f4⟩ := isF_bd hS ho (bl := bl) s (by omega)
  obtain ⟨x1, x2, x3, x4⟩ := hS.2 s hsl
  have hSb := hS.1
  have hF : isF bl sc S (s + 1) = ((isF bl sc S s).1 ++ isB (ic sc (S.getD s (0, 0)).1.toNat 0) (isF bl sc S s).2 (S.getD s (0, 0)).2, (isF bl sc S s).2 + strL bl sc (S.getD s (0, 0)).1 (S.getD s (0, 0)).2) := rfl
  have hget : (S.map rwS)[s]? = some [.int .i64 (S.getD s (0, 0)).1, .int .i64 (S.getD s (0, 0)).2] := by
    rw [List.getElem?_map, List.getD_eq_getElem?_getD, List.getElem?_eq_getElem hsl]; rfl
  have hSl : (S.map rwS).length = S.length := by simp
  have h0 : s = 0 → isF bl sc S s = ([], 1) := fun hh => by rw [hh]; rfl
  generalize isF bl sc S s = C at *
  obtain ⟨L0, β⟩ := C
  generalize S.getD s (0, 0) = x at *
  obtain ⟨b, v⟩ := x
  simp only at *
  have h1 : IntKind.i64.wrap ((s : Int) + 1) = (s : Int) + 1 := wrap64 (by omega) (by omega)
  have h3 : decide ((S.length : Int) ≤ s) = false := by simp; omega
  have h3' : decide (S.length ≤ s) = false := by simp; omega
  have h4 : decide (s < S.length) = true := by simp; omega
  have hob := ho b.toNat (by omega)
  have hbd := strL_bd (bl := bl) (sc := sc) (b := b) (v := (v : Int)) hob (by omega) (by omega)
  obtain ⟨d17, q17⟩ := rtI_val (tot17 K hK nm w ar st rt bl h sc hs b v ⟨by omega, by omega⟩ hob ⟨by omega, by omega⟩)
  have w1 : IntKind.i64.wrap (β + strL bl sc b v) = β + strL bl sc b v := wrap64 (by omega) (by omega)
  have M1 : v < K + 2 := big_lt (by simp only [LMAX]; omega) (big_add 2 hK)
  have hlen : 0 < (L0 ++ isB (ic sc b.toNat 0) β v).length := by rw [List.length_append, isB_len]; omega
  have hll : ((L0 ++ isB (ic sc b.toNat 0) β v).map ivs).length = (L0 ++ isB (ic sc b.toNat 0) β v).length := by simp
  have fin : ∀ d, I9o (bxF nm w ar st rt bl) bl sc S (s + 1) (T9on sc (L0 ++ isB (ic sc b.toNat 0) β v).length (β + strL bl sc b v) S.length (s + 1) [bxF nm w ar st rt bl, bxO (L0 ++ isB (ic sc b.toNat 0) β v), bxL S] d) := fun d => ⟨d, .inr ⟨by omega, by rw [hF]⟩⟩
  generalize I9o (bxF nm w ar st rt bl) bl sc S (s + 1) = II at fin ⊢
  simp only [T9on, bxF, bxO, bxL, Int.natCast_add, Int.natCast_one] at fin
  rcases ht with ⟨hs0, rfl⟩ | ⟨hs0, rfl⟩
  · have hC := h0 hs0
    obtain ⟨rfl, rfl⟩ : L0 = [] ∧ β = 1 := by simpa using hC
    rcases loop_go (I := fun k t => I9i (bxF nm w ar st rt bl) sc S 1 b s v ([] ++ isB (ic sc b.toNat 0) 1 k) t k) (t0 := T9e sc 1 S.length s v 0 [bxF nm w ar st rt bl, bxS b v, bxL S] true) (pre := tidy [1, 3, 10, 11, 13, 25, 26, 27, 32, 33] 0) (fun k t hk ht => g9i (callF tbl pu (K + 2)) (K + 2) nm w ar st rt bl h sc hs S 1 b s v [] ⟨by omega, by omega⟩ hob (by omega) ⟨by omega, by omega⟩ (by omega) hSb k hk t ht) (fun t ht => x9i (callF tbl pu (K + 2)) (K + 2) _ sc S 1 b s v _ t ht) ⟨_, .inl ⟨rfl, rfl⟩⟩ with ⟨t, ⟨d2, ht⟩, hl⟩ | ⟨r, hr, hl⟩
    case inr => exact hr.elim
    rcases ht with ⟨he, -⟩ | ⟨-, rfl⟩
    · rw [he] at hlen; simp at hlen
    have hse : S.length = S.length := rfl
    unfold c9_b1 T9oe
    simp (contextual := true) (maxSteps := 10000000) (implicitDefEqProofs := false) [bxF, bxL, h1, h3, h3', h4, hSl, hget, -getElem?_pos, List.getElem?_cons_zero, List.getElem?_cons_succ, gw.all, ga.all, gs.all, gr.all, gb.all, gc.all, freezeH, execC_loop, -kIter_succ, -List.getElem?_map, -List.length_map, kCond_kc, kc_kif, ↓kif_tr, ↓kif_fl, kif_tr, kif_fl, kif_same, ↓kif_not, ↓kif_or, ↓kifg_tr, ↓kifg_fl, ↓kifg_not, ↓kifg_or, ↓kifg_and, kifg_kif, kifB_t, kifB_f, kifB_ft, kifB_tt, kif_bool, kif_int, mergeL, mergeV, mergeS, mergeRs, kSeq_kif, kBlk_kif, kPost_kif, kNext_kif, kFin_kif, kReg_kif, kOps_kif, kO_kif, kG_kif, kDrw_kif, kW_kif, kOpsW_kif, kRet_kif, map_kif, bind_kif, kWant_t, kWant_f, kWant_kif, ↓execI_pick, kPick_bool, kPick_kif, ↓execI_iadr, kIadr_sl, ↓execI_idxs, kIdxs_str, ↓execI_len, ↓rdB_ld, kRd_ptr, kRd_tptr, kRd_tup, kRd_kif, kOpsW_bs, gt0, st0, gt1, st1, gt2, st2, gt3, st3, gt4, st4, gt5, st5, gt6, st6, gt7, st7, gt8, st8, -kWant_bool, -Int.not_le, -Int.not_lt, -decide_eq_true_eq, -decide_eq_false_iff_not, -List.getD_eq_getElem?_getD, -List.set_cons_succ, -List.set_cons_zero, -Bool.and_eq_true, -Bool.or_eq_true, -Bool.not_eq_eq_eq_not, -Bool.or_eq_false_iff, -Bool.and_eq_false_imp, -Bool.not_eq_true, -Bool.not_eq_false]
    rw [hl _ _ M1 (by simp (contextual := true) (maxSteps := 10000000) (implicitDefEqProofs := false) [T9e, bxF, bxS, bxL, tidy, gw.all, ga.all, gs.all, gr.all, gb.all, gc.all, -List.getElem?_map, -List.length_map, kCond_kc, kc_kif, ↓kif_tr, ↓kif_fl, kif_tr, kif_fl, kif_same, ↓kif_not, ↓kif_or, ↓kifg_tr, ↓kifg_fl, ↓kifg_not, ↓kifg_or, ↓kifg_and, kifg_kif, kifB_t, kifB_f, kifB_ft, kifB_tt, kif_bool, kif_int, mergeL, mergeV, mergeS, mergeRs, kSeq_kif, kBlk_kif, kPost_kif, kNext_kif, kFin_kif, kReg_kif, kOps_kif, kO_kif, kG_kif, kDrw_kif, kW_kif, kOpsW_kif, kRet_kif, map_kif, bind_kif, kWant_t, kWant_f, kWant_kif, ↓execI_pick, kPick_bool, kPick_kif, ↓execI_iadr, kIadr_sl, ↓execI_idxs, kIdxs_str, ↓execI_len, ↓rdB_ld, kRd_ptr, kRd_tptr, kRd_tup, kRd_kif, kOpsW_bs, gt0, st0, gt1, st1, gt2, st2, gt3, st3, gt4, st4, gt5, st5, gt6, st6, gt7, st7, gt8, st8, -kWant_bool, -Int.not_le, -Int.not_lt, -decide_eq_true_eq, -decide_eq_false_iff_not, -List.getD_eq_getElem?_getD, -List.set_cons_succ, -List.set_cons_zero, -Bool.and_eq_true, -Bool.or_eq_true, -Bool.not_eq_eq_eq_not, -Bool.or_eq_false_iff, -Bool.and_eq_false_imp, -Bool.not_eq_true, -Bool.not_eq_false])]
    generalize [] ++ isB (ic sc b.toNat 0) 1 v = L at *
    simp (contextual := true) (maxSteps := 10000000) (implicitDefEqProofs := false) [T9n, c9_b0, bxF, bxO, bxS, bxL, h1, hSl, hll, callV_pu, q17, w1, gw.all, ga.all, gs.all, gr.all, gb.all, gc.all, -List.getElem?_map, fin, Go1_kif, Go1_ret, Go1_normal, Go1_exit, RtF_ret, ex_eq, ex_eq2, tidy, kCond_kc, kc_kif, ↓kif_tr, ↓kif_fl, kif_tr, kif_fl, kif_same, ↓kif_not, ↓kif_or, ↓kifg_tr, ↓kifg_fl, ↓kifg_not, ↓kifg_or, ↓kifg_and, kifg_kif, kifB_t, kifB_f, kifB_ft, kifB_tt, kif_bool, kif_int, mergeL, mergeV, mergeS, mergeRs, kSeq_kif, kBlk_kif, kPost_kif, kNext_kif, kFin_kif, kReg_kif, kOps_kif, kO_kif, kG_kif, kDrw_kif, kW_kif, kOpsW_kif, kRet_kif, map_kif, bind_kif, kWant_t, kWant_f, kWant_kif, ↓execI_pick, kPick_bool, kPick_kif, ↓execI_iadr, kIadr_sl, ↓execI_idxs, kIdxs_str, ↓execI_len, ↓rdB_ld, kRd_ptr, kRd_tptr, kRd_tup, kRd_kif, kOpsW_bs, gt0, st0, gt1, st1, gt2, st2, gt3, st3, gt4, st4, gt5, st5, gt6, st6, gt7, st7, gt8, st8, -kWant_bool, -Int.not_le, -Int.not_lt, -decide_eq_true_eq, -decide_eq_false_iff_not, -List.getD_eq_getElem?_getD, -List.set_cons_succ, -List.set_cons_zero, -Bool.and_eq_true, -Bool.or_eq_true, -Bool.not_eq_eq_eq_not, -Bool.or_eq_false_iff, -Bool.and_eq_false_imp, -Bool.not_eq_true, -Bool.not_eq_false]
  · rcases loop_go (I := fun k t => I9i (bxF nm w ar st rt bl) sc S β b s v (L0 ++ isB (ic sc b.toNat 0) β k) t k) (t0 := T9n sc L0.length β S.length s v 0 [bxF nm w ar st rt bl, bxO L0, bxS b v, bxL S] true) (pre := tidy [1, 3, 10, 11, 13, 25, 26, 27, 32, 33] 0) (fun k t hk ht => g9i (callF tbl pu (K + 2)) (K + 2) nm w ar st rt bl h sc hs S β b s v L0 ⟨by omega, by omega⟩ hob (by omega) ⟨by omega, by omega⟩ (by omega) hSb k hk t ht) (fun t ht => x9i (callF tbl pu (K + 2)) (K + 2) _ sc S β b s v _ t ht) ⟨true, .inr ⟨by simp [isB]; omega, by simp [isB]⟩⟩ with ⟨t, ⟨d2, ht⟩, hl⟩ | ⟨r, hr, hl⟩
    case inr => exact hr.elim
    rcases ht with ⟨he, -⟩ | ⟨-, rfl⟩
    · rw [he] at hlen; simp at hlen
    have hl0 : (L0.map ivs).length = L0.length := by simp
    unfold c9_b1 T9on
    simp (contextual := true) (maxSteps := 10000000) (implicitDefEqProofs := false) [bxF, bxO, bxL, h1, h3, h3', h4, hSl, hl0, hget, -getElem?_pos, List.getElem?_cons_zero, List.getElem?_cons_succ, gw.all, ga.all, gs.all, gr.all, gb.all, gc.all, freezeH, execC_loop, -kIter_succ, -List.getElem?_map, -List.length_map, kCond_kc, kc_kif, ↓kif_tr, ↓kif_fl, kif_tr, kif_fl, kif_same, ↓kif_not, ↓kif_or, ↓kifg_tr, ↓kifg_fl, ↓kifg_not, ↓kifg_or, ↓kifg_and, kifg_kif, kifB_t, kifB_f, kifB_ft, kifB_tt, kif_bool, kif_int, mergeL, mergeV, mergeS, mergeRs, kSeq_kif, kBlk_kif, kPost_kif, kNext_kif, kFin_kif, kReg_kif, kOps_kif, kO_kif, kG_kif, kDrw_kif, kW_kif, kOpsW_kif, kRet_kif, map_kif, bind_kif, kWant_t, kWant_f, kWant_kif, ↓execI_pick, kPick_bool, kPick_kif, ↓execI_iadr, kIadr_sl, ↓execI_idxs, kIdxs_str, ↓execI_len, ↓rdB_ld, kRd_ptr, kRd_tptr, kRd_tup, kRd_kif, kOpsW_bs, gt0, st0, gt1, st1, gt2, st2, gt3, st3, gt4, st4, gt5, st5, gt6, st6, gt7, st7, gt8, st8, -kWant_bool, -Int.not_le, -Int.not_lt, -decide_eq_true_eq, -decide_eq_false_iff_not, -List.getD_eq_getElem?_getD, -List.set_cons_succ, -List.set_cons_zero, -Bool.and_eq_true, -Bool.or_eq_true, -Bool.not_eq_eq_eq_not, -Bool.or_eq_false_iff, -Bool.and_eq_false_imp, -Bool.not_eq_true, -Bool.not_eq_false]
    rw [hl _ _ M1 (by simp (contextual := true) (maxSteps := 10000000) (implicitDefEqProofs := false) [T9n, bxF, bxO, bxS, bxL, tidy, hl0, gw.all, ga.all, gs.all, gr.all, gb.all, gc.all, -List.getElem?_map, -List.length_map, kCond_kc, kc_kif, ↓kif_tr, ↓kif_fl, kif_tr, kif_fl, kif_same, ↓kif_not, ↓kif_or, ↓kifg_tr, ↓kifg_fl, ↓kifg_not, ↓kifg_or, ↓kifg_and, kifg_kif, kifB_t, kifB_f, kifB_ft, kifB_tt, kif_bool, kif_int, mergeL, mergeV, mergeS, mergeRs, kSeq_kif, kBlk_kif, kPost_kif, kNext_kif, kFin_kif, kReg_kif, kOps_kif, kO_kif, kG_kif, kDrw_kif, kW_kif, kOpsW_kif, kRet_kif, map_kif, bind_kif, kWant_t, kWant_f, kWant_kif, ↓execI_pick, kPick_bool, kPick_kif, ↓execI_iadr, kIadr_sl, ↓execI_idxs, kIdxs_str, ↓execI_len, ↓rdB_ld, kRd_ptr, kRd_tptr, kRd_tup, kRd_kif, kOpsW_bs, gt0, st0, gt1, st1, gt2, st2, gt3, st3, gt4, st4, gt5, st5, gt6, st6, gt7, st7, gt8, st8, -kWant_bool, -Int.not_le, -Int.not_lt, -decide_eq_true_eq, -decide_eq_false_iff_not, -List.getD_eq_getElem?_getD, -List.set_cons_succ, -List.set_cons_zero, -Bool.and_eq_true, -Bool.or_eq_true, -Bool.not_eq_eq_eq_not, -Bool.or_eq_false_iff, -Bool.and_eq_false_imp, -Bool.not_eq_true, -Bool.not_eq_false])]
    generalize L0 ++ isB (ic sc b.toNat 0) β v = L at *
    simp (contextual := true) (maxSteps := 10000000) (implicitDefEqProofs := false) [T9n, c9_b0, bxF, bxO, bxS, bxL, h1, hSl, hll, callV_pu, q17, w1, gw.all, ga.all, gs.all, gr.all, gb.all, gc.all, -List.getElem?_map, fin, Go1_kif, Go1_ret, Go1_normal, Go1_exit, RtF_ret, ex_eq, ex_eq2, tidy, kCond_kc, kc_kif, ↓kif_tr, ↓kif_fl, kif_tr, kif_fl, kif_same, ↓kif_not, ↓kif_or, ↓kifg_tr, ↓kifg_fl, ↓kifg_not, ↓kifg_or, ↓kifg_and, kifg_kif, kifB_t, kifB_f, kifB_ft, kifB_tt, kif_bool, kif_int, mergeL, mergeV, mergeS, mergeRs, kSeq_kif, kBlk_kif, kPost_kif, kNext_kif, kFin_kif, kReg_kif, kOps_kif, kO_kif, kG_kif, kDrw_kif, kW_kif, kOpsW_kif, kRet_kif, map_kif, bind_kif, kWant_t, kWant_f, kWant_kif, ↓execI_pick, kPick_bool, kPick_kif, ↓execI_iadr, kIadr_sl, ↓execI_idxs, kIdxs_str, ↓execI_len, ↓rdB_ld, kRd_ptr, kRd_tptr, kRd_tup, kRd_kif, kOpsW_bs, gt0, st0, gt1, st1, gt2, st2, gt3, st3, gt4, st4, gt5, st5, gt6, st6, gt7, st7, gt8, st8, -kWant_bool, -Int.not_le, -Int.not_lt, -decide_eq_true_eq, -decide_eq_false_iff_not, -List.getD_eq_getElem?_getD, -List.set_cons_succ, -List.set_cons_zero, -Bool.and_eq_true, -Bool.or_eq_true, -Bool.not_eq_eq_eq_not, -Bool.or_eq_false_iff, -Bool.and_eq_false_imp, -Bool.not_eq_true, -Bool.not_eq_false]
end Go.AM.Ytegibclhopenmaa

set_option linter.unusedVariables false
set_option linter.unusedSimpArgs false
namespace Go.AM.Ytegibclhopenmaa
open Go Go.AM
set_option maxRecDepth 100000
set_option maxHeartbeats 0
attribute [local congr] kif_congr
/-- the cycle in which a visit begins -/
def iss (bl sc pa : V) : Nat → Int
  | 0 => 1
  | j + 1 => iss bl sc pa j + (if ic pa j 0 = ic pa (j + 1) 0 ∧ SPp bl sc (ic pa (j + 1) 0) then ic sc (ic pa j 0).toNat 0 else ic sc (ic pa j 0).toNat 1)
theorem isF_app {bl sc : V} {A B : List (Int × Nat)} : ∀ s, s ≤ A.length → isF bl sc (A ++ B) s = isF bl sc A s
  | 0, _ => rfl
  | s + 1, h => by
    have ih := isF_app (bl := bl) (sc := sc) (A := A) (B := B) s (by omega)
    have hx : (A ++ B).getD s (0, 0) = A.getD s (0, 0) := by
      rw [List.getD_eq_getElem?_getD, List.getD_eq_getElem?_getD, List.getElem?_append_left (by omega)]
    simp only [isF, ih, hx]
theorem isF_snoc {bl sc : V} {A : List (Int × Nat)} {x : Int × Nat} : isF bl sc (A ++ [x]) (A.length + 1) = ((isF bl sc A A.length).1 ++ isB (ic sc x.1.toNat 0) (isF bl sc A A.length).2 x.2, (isF bl sc A A.length).2 + strL bl sc x.1 x.2) := by
  have hx : (A ++ [x]).getD A.length (0, 0) = x := by
    rw [List.getD_eq_getElem?_getD]; simp
  simp only [isF, hx, isF_app (bl := bl) (sc := sc) (A := A) (B := [x]) A.length (Nat.le_refl _)]
theorem ct_iss (bl sc pa : V) : ∀ j, (isF bl sc (ct bl sc pa j).1 (ct bl sc pa j).1.length).1 ++ isB (ic sc (ic pa j 0).toNat 0) (isF bl sc (ct bl sc pa j).1 (ct bl sc pa j).1.length).2 (ct bl sc pa j).2 = (List.range (j + 1)).map (iss bl sc pa) ∧
    iss bl sc pa j = (isF bl sc (ct bl sc pa j).1 (ct bl sc pa j).1.length).2 + (((ct bl sc pa j).2 : Int) - 1) * ic sc (ic pa j 0).toNat 0 ∧ ((ct bl sc pa j).2 = 1 ∨ SPp bl sc (ic pa j 0))
  | 0 => by simp [ct, isF, isB, iss, List.range_succ]
  | j + 1 => by
    obtain ⟨h1, h2, h3⟩ := ct_iss bl sc pa j
    obtain ⟨-, b2, -⟩ := ct_le bl sc pa j
    have hr : (List.range (j + 1 + 1)).map (iss bl sc pa) = (List.range (j + 1)).map (iss bl sc pa) ++ [iss bl sc pa (j + 1)] := by
      rw [List.range_succ, List.map_append]; rfl
    have hi : iss bl sc pa (j + 1) = iss bl sc pa j + (if ic pa j 0 = ic pa (j + 1) 0 ∧ SPp bl sc (ic pa (j + 1) 0) then ic sc (ic pa j 0).toNat 0 else ic sc (ic pa j 0).toNat 1) := rfl
    by_cases cs : ic pa j 0 = ic pa (j + 1) 0 ∧ SPp bl sc (ic pa (j + 1) 0)
    · have hct : ct bl sc pa (j + 1) = ((ct bl sc pa j).1, (ct bl sc pa j).2 + 1) := by simp only [ct]; rw [if_pos cs]
      rw [if_pos cs] at hi
      rw [hct, hr, hi]
      simp only
      rw [isB_succ, ← List.append_assoc, ← cs.1, h1, h2]
      generalize (ct bl sc pa j).2 = v at *
      generalize ic sc (ic pa j 0).toNat 0 = ii
      generalize (isF bl sc (ct bl sc pa j).1 (ct bl sc pa j).1.length).2 = β
      have e1 : β + ((v : Int) - 1) * ii + ii = β + (v : Int) * ii := by
        rw [Int.sub_mul]; omega
      refine ⟨by rw [e1], ?_, .inr (cs.1 ▸ cs.2)⟩
      rw [e1]
      have : (((v + 1 : Nat) : Int) - 1) = v := by omega
      rw [this]
    · have hct : ct bl sc pa (j + 1) = ((ct bl sc pa j).1 ++ [(ic pa j 0, (ct bl sc pa j).2)], 1) := by simp only [ct]; rw [if_neg cs]
      rw [if_neg cs] at hi
      have hsn := isF_snoc (bl := bl) (sc := sc) (A := (ct bl sc pa j).1) (x := (ic pa j 0, (ct bl sc pa j).2))
      rw [hct, hr]
      simp only [List.length_append, List.length_cons, List.length_nil, Nat.zero_add]
      rw [hsn]
      simp only
      rw [h1]
      have hb : (isF bl sc (ct bl sc pa j).1 (ct bl sc pa j).1.length).2 + strL bl sc (ic pa j 0) ((ct bl sc pa j).2 : Int) = iss bl sc pa (j + 1) := by
        rw [hi, h2]
        unfold strL
        rcases h3 with h3 | h3
        · rw [h3]
          split <;> simp
        · rw [if_pos h3]; omega
      rw [hb]
      exact ⟨by simp [isB], by simp, .inl trivial⟩
theorem isF_stA (bl sc pa : V) (j : Nat) : (isF bl sc (stA bl sc pa j) (stA bl sc pa j).length).1 = (List.range (j + 1)).map (iss bl sc pa) := by
  have hl : (stA bl sc pa j).length = (ct bl sc pa j).1.length + 1 := by simp [stA]
  rw [hl]
  unfold stA
  rw [isF_snoc]
  exact (ct_iss bl sc pa j).1
theorem stA_ok (bl sc pa : V) : ∀ j, (∀ i, i ≤ j → okP bl pa i) → ∀ x ∈ stA bl sc pa j, 0 ≤ x.1 ∧ x.1 < lenV bl ∧ 1 ≤ x.2 ∧ x.2 ≤ j + 1
  | 0, h => by
    intro x hx
    simp [stA, ct] at hx
    subst hx
    have := h 0 (by omega)
    exact ⟨this.1, this.2.1, by simp, by simp⟩
  | j + 1, h => by
    have ih := stA_ok bl sc pa j (fun i hi => h i (by omega))
    obtain ⟨-, b2, b3⟩ := ct_le bl sc pa (j + 1)
    intro x hx
    have hj := h (j + 1) (by omega)
    have hx' : x ∈ stA bl sc pa j ∨ x = (ic pa (j + 1) 0, (ct bl sc pa (j + 1)).2) := by
      unfold stA at hx
      rcases List.mem_append.1 hx with h1 | h1
      · left
        simp only [ct] at h1
        split at h1
        · unfold stA; exact List.mem_append.2 (.inl h1)
        · exact h1
      · right; simpa using h1
    rcases hx' with h1 | rfl
    · have := ih x h1
      omega
    · exact ⟨hj.1, hj.2.1, by simp; omega, by simp; omega⟩
theorem good_ok {bl sc pa : V} (h : Good bl sc pa) (hn : lenV pa ≤ 60) : OkS sc (stA bl sc pa (lenV pa - 1)) := by
  obtain ⟨g1, g2, g3, g4, g5⟩ := h
  obtain ⟨b1, -, -⟩ := ct_le bl sc pa (lenV pa - 1)
  have hl : (stA bl sc pa (lenV pa - 1)).length = (ct bl sc pa (lenV pa - 1)).1.length + 1 := by simp [stA]
  refine ⟨by omega, fun s hs => ?_⟩
  have hm : (stA bl sc pa (lenV pa - 1)).getD s (0, 0) ∈ stA bl sc pa (lenV pa - 1) := by
    rw [List.getD_eq_getElem?_getD, List.getElem?_eq_getElem hs]
    exact List.getElem_mem hs
  have := stA_ok bl sc pa (lenV pa - 1) (fun i hi => g5 i (by omega)) _ hm
  omega
end Go.AM.Ytegibclhopenmaa

set_option linter.unusedVariables false
set_option linter.unusedSimpArgs false
namespace Go.AM.Ytegibclhopenmaa
open Go Go.AM
set_option maxRecDepth 100000
set_option maxHeartbeats 0
attribute [local congr] kif_congr
theorem kRet_tupsl {H : Heap} {fs : List (Nat × Nat)} {z b L o n z' fz : Nat} {es : List (List V)} {w : V} {d : Bool} (hw : w.flat = true) : kRet H fs (some (.tup [.sl z b L o n, w], [⟨z', es, fz, false, true⟩], d)) = some (.tup [.sl z (H.length + b) L o n, w], .new [⟨z', es, fz, false, true⟩]) := by
  cases w <;> first | (simp [V.flat] at hw; done) | simp [kRet, V.ren, renL, backG, renH, Blk.ren, nt3, nt2, nt1, flatH, V.flat]
def issL (bl sc pa : V) : List Int := (List.range (lenV pa)).map (iss bl sc pa)
theorem x9o (call : CallT) (K : Nat) (B : Blk) (bl sc : V) (S : List (Int × Nat)) (t : St) (ht : I9o B bl sc S S.length t) : Nn (execC call pu 0 K c9_b1 t) := by
  obtain ⟨d, ht⟩ := ht
  rcases ht with ⟨hs, rfl⟩ | ⟨hs, rfl⟩
  · unfold c9_b1 T9oe
    simp (contextual := true) (maxSteps := 10000000) (implicitDefEqProofs := false) [Nn_exit, kCond_kc, kc_kif, ↓kif_tr, ↓kif_fl, kif_tr, kif_fl, kif_same, ↓kif_not, ↓kif_or, ↓kifg_tr, ↓kifg_fl, ↓kifg_not, ↓kifg_or, ↓kifg_and, kifg_kif, kifB_t, kifB_f, kifB_ft, kifB_tt, kif_bool, kif_int, mergeL, mergeV, mergeS, mergeRs, kSeq_kif, kBlk_kif, kPost_kif, kNext_kif, kFin_kif, kReg_kif, kOps_kif, kO_kif, kG_kif, kDrw_kif, kW_kif, kOpsW_kif, kRet_kif, map_kif, bind_kif, kWant_t, kWant_f, kWant_kif, ↓execI_pick, kPick_bool, kPick_kif, ↓execI_iadr, kIadr_sl, ↓execI_idxs, kIdxs_str, ↓execI_len, ↓rdB_ld, kRd_ptr, kRd_tptr, kRd_tup, kRd_kif, kOpsW_bs, gt0, st0, gt1, st1, gt2, st2, gt3, st3, gt4, st4, gt5, st5, gt6, st6, gt7, st7, gt8, st8, -kWant_bool, -Int.not_le, -Int.not_lt, -decide_eq_true_eq, -decide_eq_false_iff_not, -List.getD_eq_getElem?_getD, -List.set_cons_succ, -List.set_cons_zero, -Bool.and_eq_true, -Bool.or_eq_true, -Bool.not_eq_eq_eq_not, -Bool.or_eq_false_iff, -Bool.and_eq_false_imp, -Bool.not_eq_true, -Bool.not_eq_false]
  · unfold c9_b1 T9on
    simp (contextual := true) (maxSteps := 10000000) (implicitDefEqProofs := false) [Nn_exit, kCond_kc, kc_kif, ↓kif_tr, ↓kif_fl, kif_tr, kif_fl, kif_same, ↓kif_not, ↓kif_or, ↓kifg_tr, ↓kifg_fl, ↓kifg_not, ↓kifg_or, ↓kifg_and, kifg_kif, kifB_t, kifB_f, kifB_ft, kifB_tt, kif_bool, kif_int, mergeL, mergeV, mergeS, mergeRs, kSeq_kif, kBlk_kif, kPost_kif, kNext_kif, kFin_kif, kReg_kif, kOps_kif, kO_kif, kG_kif, kDrw_kif, kW_kif, kOpsW_kif, kRet_kif, map_kif, bind_kif, kWant_t, kWant_f, kWant_kif, ↓execI_pick, kPick_bool, kPick_kif, ↓execI_iadr, kIadr_sl, ↓execI_idxs, kIdxs_str, ↓execI_len, ↓rdB_ld, kRd_ptr, kRd_tptr, kRd_tup, kRd_kif, kOpsW_bs, gt0, st0, gt1, st1, gt2, st2, gt3, st3, gt4, st4, gt5, st5, gt6, st6, gt7, st7, gt8, st8, -kWant_bool, -Int.not_le, -Int.not_lt, -decide_eq_true_eq, -decide_eq_false_iff_not, -List.getD_eq_getElem?_getD, -List.set_cons_succ, -List.set_cons_zero, -Bool.and_eq_true, -Bool.or_eq_true, -Bool.not_eq_eq_eq_not, -Bool.or_eq_false_iff, -Bool.and_eq_false_imp, -Bool.not_eq_true, -Bool.not_eq_false]
theorem tot9 (K : Nat) (hK : BIG ≤ K) (nm : ByteArray) (w ar st rt bl : V) (h : OkF nm w ar st rt bl) (sc pa : V) (hs : S28 [sc]) (hp : S22 [pa]) (hn : lenV pa ≤ 60) (ho : ∀ j, j < lenV sc → okS sc j) :
    (Good bl sc pa ∧ ∃ d, callF tbl pu (K + 3) 9 [.agg [.str nm, w, ar, st, rt, bl], sc, pa] [] = some (.tup [.sl 1 0 (lenV pa) 0 (lenV pa), .int .i64 0], [bxO (issL bl sc pa)], d)) ∨
    (¬ Good bl sc pa ∧ ∃ d, callF tbl pu (K + 3) 9 [.agg [.str nm, w, ar, st, rt, bl], sc, pa] [] = some (.tup [.nils, .int .i64 3], [], d)) := by
  rw [callF_eq tbl9, c9]
  have gw := LS22 h.w
  have ga := LS23 h.ar
  have gs := LS24 h.st
  have gr := LS22 h.rt
  have gb := LS25 h.bl
  have gc := LS28 hs
  have gp := LS22 hp
  rcases tot12 K hK nm w ar st rt bl h sc pa hs hp hn with ⟨hg, d0, q12⟩ | ⟨hg, d0, q12⟩
  · refine .inl ⟨hg, ?_⟩
    have hS := good_ok hg hn
    have hm : spM bl sc pa = (stA bl sc pa (lenV pa - 1)).length := by simp [spM, stA]
    have hb : spB bl sc pa = bxL (stA bl sc pa (lenV pa - 1)) := rfl
    have hfin : (isF bl sc (stA bl sc pa (lenV pa - 1)) (stA bl sc pa (lenV pa - 1)).length).1 = issL bl sc pa := by
      rw [isF_stA]
      have : lenV pa - 1 + 1 = lenV pa := by have := hg.2.1; omega
      rw [this]; rfl
    have hlen : (issL bl sc pa).length = lenV pa := by simp [issL]
    have hS1 : 0 < (stA bl sc pa (lenV pa - 1)).length := by simp [stA]
    rw [hm, hb] at q12
    generalize stA bl sc pa (lenV pa - 1) = S at *
    have M1 : S.length < K + 2 := big_lt (by have := hS.1; simp only [LMAX]; omega) (big_add 2 hK)
    rcases loop_go (t0 := T9oe sc 1 S.length 0 [bxF nm w ar st rt bl, bxL S] false) (pre := tidy [1, 3, 10, 11, 25, 26, 27] 0) (fun s t hsl ht => g9o K hK nm w ar st rt bl h sc hs S hS ho s hsl t ht) (fun t ht => x9o (callF tbl pu (K + 2)) (K + 2) _ bl sc S t ht) ⟨_, .inl ⟨rfl, rfl⟩⟩ with ⟨t, ⟨d, ht⟩, hl⟩ | ⟨r, hr, hl⟩
    case inr => exact hr.elim
    rcases ht with ⟨h0, -⟩ | ⟨-, rfl⟩
    · omega
    rw [hfin, hlen] at hl
    unfold bxL at q12
    simp (contextual := true) (maxSteps := 10000000) (implicitDefEqProofs := false) [gw.all, ga.all, gs.all, gr.all, gb.all, gc.all, gp.all, callV_pu, q12, kRet_tupsl, execC_loop, -kIter_succ, -List.getElem?_map, kCond_kc, kc_kif, ↓kif_tr, ↓kif_fl, kif_tr, kif_fl, kif_same, ↓kif_not, ↓kif_or, ↓kifg_tr, ↓kifg_fl, ↓kifg_not, ↓kifg_or, ↓kifg_and, kifg_kif, kifB_t, kifB_f, kifB_ft, kifB_tt, kif_bool, kif_int, mergeL, mergeV, mergeS, mergeRs, kSeq_kif, kBlk_kif, kPost_kif, kNext_kif, kFin_kif, kReg_kif, kOps_kif, kO_kif, kG_kif, kDrw_kif, kW_kif, kOpsW_kif, kRet_kif, map_kif, bind_kif, kWant_t, kWant_f, kWant_kif, ↓execI_pick, kPick_bool, kPick_kif, ↓execI_iadr, kIadr_sl, ↓execI_idxs, kIdxs_str, ↓execI_len, ↓rdB_ld, kRd_ptr, kRd_tptr, kRd_tup, kRd_kif, kOpsW_bs, gt0, st0, gt1, st1, gt2, st2, gt3, st3, gt4, st4, gt5, st5, gt6, st6, gt7, st7, gt8, st8, -kWant_bool, -Int.not_le, -Int.not_lt, -decide_eq_true_eq, -decide_eq_false_iff_not, -List.getD_eq_getElem?_getD, -List.set_cons_succ, -List.set_cons_zero, -Bool.and_eq_true, -Bool.or_eq_true, -Bool.not_eq_eq_eq_not, -Bool.or_eq_false_iff, -Bool.and_eq_false_imp, -Bool.not_eq_true, -Bool.not_eq_false]
    rw [hl _ _ M1 (by simp (contextual := true) (maxSteps := 10000000) (implicitDefEqProofs := false) [T9oe, bxF, bxL, tidy, gw.all, ga.all, gs.all, gr.all, gb.all, gc.all, -List.getElem?_map, kCond_kc, kc_kif, ↓kif_tr, ↓kif_fl, kif_tr, kif_fl, kif_same, ↓kif_not, ↓kif_or, ↓kifg_tr, ↓kifg_fl, ↓kifg_not, ↓kifg_or, ↓kifg_and, kifg_kif, kifB_t, kifB_f, kifB_ft, kifB_tt, kif_bool, kif_int, mergeL, mergeV, mergeS, mergeRs, kSeq_kif, kBlk_kif, kPost_kif, kNext_kif, kFin_kif, kReg_kif, kOps_kif, kO_kif, kG_kif, kDrw_kif, kW_kif, kOpsW_kif, kRet_kif, map_kif, bind_kif, kWant_t, kWant_f, kWant_kif, ↓execI_pick, kPick_bool, kPick_kif, ↓execI_iadr, kIadr_sl, ↓execI_idxs, kIdxs_str, ↓execI_len, ↓rdB_ld, kRd_ptr, kRd_tptr, kRd_tup, kRd_kif, kOpsW_bs, gt0, st0, gt1, st1, gt2, st2, gt3, st3, gt4, st4, gt5, st5, gt6, st6, gt7, st7, gt8, st8, -kWant_bool, -Int.not_le, -Int.not_lt, -decide_eq_true_eq, -decide_eq_false_iff_not, -List.getD_eq_getElem?_getD, -List.set_cons_succ, -List.set_cons_zero, -Bool.and_eq_true, -Bool.or_eq_true, -Bool.not_eq_eq_eq_not, -Bool.or_eq_false_iff, -Bool.and_eq_false_imp, -Bool.not_eq_true, -Bool.not_eq_false])]
    simp (contextual := true) (maxSteps := 10000000) (implicitDefEqProofs := false) [T9on, c9_b1, bxF, bxO, bxL, hlen, gw.all, ga.all, gs.all, gr.all, gb.all, gc.all, -List.getElem?_map, kCond_kc, kc_kif, ↓kif_tr, ↓kif_fl, kif_tr, kif_fl, kif_same, ↓kif_not, ↓kif_or, ↓kifg_tr, ↓kifg_fl, ↓kifg_not, ↓kifg_or, ↓kifg_and, kifg_kif, kifB_t, kifB_f, kifB_ft, kifB_tt, kif_bool, kif_int, mergeL, mergeV, mergeS, mergeRs, kSeq_kif, kBlk_kif, kPost_kif, kNext_kif, kFin_kif, kReg_kif, kOps_kif, kO_kif, kG_kif, kDrw_kif, kW_kif, kOpsW_kif, kRet_kif, map_kif, bind_kif, kWant_t, kWant_f, kWant_kif, ↓execI_pick, kPick_bool, kPick_kif, ↓execI_iadr, kIadr_sl, ↓execI_idxs, kIdxs_str, ↓execI_len, ↓rdB_ld, kRd_ptr, kRd_tptr, kRd_tup, kRd_kif, kOpsW_bs, gt0, st0, gt1, st1, gt2, st2, gt3, st3, gt4, st4, gt5, st5, gt6, st6, gt7, st7, gt8, st8, -kWant_bool, -Int.not_le, -Int.not_lt, -decide_eq_true_eq, -decide_eq_false_iff_not, -List.getD_eq_getElem?_getD, -List.set_cons_succ, -List.set_cons_zero, -Bool.and_eq_true, -Bool.or_eq_true, -Bool.not_eq_eq_eq_not, -Bool.or_eq_false_iff, -Bool.and_eq_false_imp, -Bool.not_eq_true, -Bool.not_eq_false]
  · refine .inr ⟨hg, ?_⟩
    simp (contextual := true) (maxSteps := 10000000) (implicitDefEqProofs := false) [gw.all, ga.all, gs.all, gr.all, gb.all, gc.all, gp.all, callV_pu, q12, kCond_kc, kc_kif, ↓kif_tr, ↓kif_fl, kif_tr, kif_fl, kif_same, ↓kif_not, ↓kif_or, ↓kifg_tr, ↓kifg_fl, ↓kifg_not, ↓kifg_or, ↓kifg_and, kifg_kif, kifB_t, kifB_f, kifB_ft, kifB_tt, kif_bool, kif_int, mergeL, mergeV, mergeS, mergeRs, kSeq_kif, kBlk_kif, kPost_kif, kNext_kif, kFin_kif, kReg_kif, kOps_kif, kO_kif, kG_kif, kDrw_kif, kW_kif, kOpsW_kif, kRet_kif, map_kif, bind_kif, kWant_t, kWant_f, kWant_kif, ↓execI_pick, kPick_bool, kPick_kif, ↓execI_iadr, kIadr_sl, ↓execI_idxs, kIdxs_str, ↓execI_len, ↓rdB_ld, kRd_ptr, kRd_tptr, kRd_tup, kRd_kif, kOpsW_bs, gt0, st0, gt1, st1, gt2, st2, gt3, st3, gt4, st4, gt5, st5, gt6, st6, gt7, st7, gt8, st8, -kWant_bool, -Int.not_le, -Int.not_lt, -decide_eq_true_eq, -decide_eq_false_iff_not, -List.getD_eq_getElem?_getD, -List.set_cons_succ, -List.set_cons_zero, -Bool.and_eq_true, -Bool.or_eq_true, -Bool.not_eq_eq_eq_not, -Bool.or_eq_false_iff, -Bool.and_eq_false_imp, -Bool.not_eq_true, -Bool.not_eq_false]
end Go.AM.Ytegibclhopenmaa
