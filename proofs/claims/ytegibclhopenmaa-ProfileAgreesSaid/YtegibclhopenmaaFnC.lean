/- profile.Blocks: its rounds. -/
import Derived.Test.YtegibclhopenmaaFmF
import Derived.Test.YtegibclhopenmaaFnA
set_option linter.unusedVariables false
set_option linter.unusedSimpArgs false
namespace Go.AM.Ytegibclhopenmaa
open Go Go.AM
set_option maxRecDepth 100000
set_option maxHeartbeats 0
attribute [local congr] kif_congr
def bxM (m : Mp) : Blk := ⟨4, [.bool true, .bool true, .bool true, .bool true] :: m.map rwM, 0, false, true⟩
theorem sum_bd {α : Type} {B : Int} (f : α → Int) (S : List α) (h : ∀ x ∈ S, 0 ≤ f x ∧ f x ≤ B) : 0 ≤ (S.map f).sum ∧ (S.map f).sum ≤ B * S.length := by
  induction S with
  | nil => simp
  | cons x S ih =>
    obtain ⟨h1, h2⟩ := ih (fun y hy => h y (by simp [hy]))
    have hx := h x (by simp)
    simp only [List.map_cons, List.sum_cons, List.length_cons, Int.natCast_add, Int.natCast_one, Int.mul_add, Int.mul_one]
    omega
theorem sumV_bd {S : List (Int × Nat)} (h : ∀ x ∈ S, x.2 ≤ 60) (hl : S.length ≤ 60) (b : Int) : 0 ≤ sumV S b ∧ sumV S b ≤ 3600 := by
  have := sum_bd (B := 60) (fun x : Int × Nat => if x.1 = b then (x.2 : Int) else 0) S (fun x hx => by have := h x hx; split <;> omega)
  unfold sumV
  omega
theorem sumC_bd {bl sc : V} {S : List (Int × Nat)} (h : ∀ x ∈ S, okS sc x.1.toNat ∧ 1 ≤ x.2 ∧ x.2 ≤ 60) (hl : S.length ≤ 60) (b : Int) : 0 ≤ sumC (strL bl sc) S b ∧ sumC (strL bl sc) S b ≤ 3600000 := by
  have := sum_bd (B := 60000) (fun x : Int × Nat => if x.1 = b then strL bl sc x.1 x.2 else 0) S (fun x hx => by
    obtain ⟨h1, h2, h3⟩ := h x hx
    have := strL_bd (bl := bl) h1 (v := (x.2 : Int)) (by omega) (by omega)
    split <;> omega)
  unfold sumC
  omega
/-- all stretches of a path that is Good -/
def OkT (bl sc : V) (S : List (Int × Nat)) : Prop := OkS sc S ∧ ∀ s, s < S.length → (S.getD s (0, 0)).2 = 1 ∨ SPp bl sc (S.getD s (0, 0)).1
theorem visV_str {bl sc : V} {b : Int} {v : Nat} (h : v = 1 ∨ SPp bl sc b) : visV (ic sc b.toNat 0) (ic sc b.toNat 1) v = strL bl sc b v := by
  unfold visV strL
  rcases h with rfl | h
  · split <;> split <;> simp
  · rw [if_neg (by have := h.2.2.2.1; omega), if_pos h]
def T11 (sc : V) (n s : Nat) (H : Heap) (d : Bool) : St := ⟨[.undef, sc, .undef, .undef, .undef, .undef, .undef, .undef, .undef, .undef, .mp 0, .undef, .undef, .undef, .undef, .undef, .undef, .undef, .undef, .undef, .undef, .undef, .undef, .undef, .undef, .undef, .undef, .undef, .sl 2 1 n 0 n, .int .i64 n, .int .i64 s, .undef, .undef, .undef, .undef, .undef, .undef, .undef, .undef, .undef, .undef, .undef, .undef, .undef, .undef, .undef, .undef, .undef, .undef, .undef, .undef, .undef, .undef, .undef, .undef, .undef, .undef, .undef, .undef, .undef, .undef, .undef, .undef, .undef, .undef, .undef, .undef, .undef, .undef, .undef, .undef, .undef, .undef, .undef, .undef, .undef, .undef, .undef, .undef, .undef], H, d⟩
def I11 (bl sc : V) (S : List (Int × Nat)) (s : Nat) (t : St) : Prop := ∃ d, t = T11 sc S.length s [bxM (accM (strL bl sc) (S.take s)), bxL S] d
theorem g11 (K : Nat) (hK : BIG ≤ K) (bl sc : V) (hs : S28 [sc]) (S : List (Int × Nat)) (hS : OkT bl sc S) (ho : ∀ j, j < lenV sc → okS sc j) (s : Nat) (hsl : s < S.length) (t : St) (ht : I11 bl sc S s t) :
    Go1 (tidy [1, 10, 28, 29, 30] 0) (I11 bl sc S (s + 1)) (fun _ => False) (execC (callF tbl pu (K + 1)) pu 0 (K + 1) c11_b1 t) := by
  obtain ⟨d, rfl⟩ := ht
  have gc := LS28 hs
  obtain ⟨x1, x2, x3, x4⟩ := hS.1.2 s hsl
  have hvs := hS.2 s hsl
  have hSb := hS.1.1
  have hget : (S.map rwS)[s]? = some [.int .i64 (S.getD s (0, 0)).1, .int .i64 (S.getD s (0, 0)).2] := by
    rw [List.getElem?_map, List.getD_eq_getElem?_getD, List.getElem?_eq_getElem hsl]; rfl
  have hSl : (S.map rwS).length = S.length := by simp
  have htk : S.take (s + 1) = S.take s ++ [S.getD s (0, 0)] := by
    rw [List.take_add_one, List.getElem?_eq_getElem hsl, List.getD_eq_getElem?_getD, List.getElem?_eq_getElem hsl]; rfl
  have hmem : ∀ x ∈ S.take s, okS sc x.1.toNat ∧ 1 ≤ x.2 ∧ x.2 ≤ 60 := by
    intro x hx
    obtain ⟨i, hi, rfl⟩ := List.getElem_of_mem (List.mem_of_mem_take hx)
    have := hS.1.2 i hi
    rw [List.getD_eq_getElem?_getD, List.getElem?_eq_getElem hi] at this
    simp only [Option.getD_some] at this
    exact ⟨ho _ (by omega), by omega, by omega⟩
  have b1 := sumV_bd (S := S.take s) (fun x hx => (hmem x hx).2.2) (by rw [List.length_take]; omega) (S.getD s (0, 0)).1
  have b2 := sumC_bd (bl := bl) (S := S.take s) hmem (by rw [List.length_take]; omega) (S.getD s (0, 0)).1
  have hacc := accM_snoc (strL bl sc) (S.take s) (S.getD s (0, 0))
  have hg := accM_get (strL bl sc) (S.take s) (S.getD s (0, 0)).1
  unfold I11
  rw [htk, hacc]
  generalize accM (strL bl sc) (S.take s) = m at *
  generalize S.getD s (0, 0) = x at *
  obtain ⟨b, v⟩ := x
  simp only at *
  obtain ⟨x0, hlk⟩ := lkM m b
  have hup := upMM m b ((getM m b).1 + v, (getM m b).2 + strL bl sc b v)
  rw [hg] at hlk hup ⊢
  simp only at hlk hup ⊢
  generalize putM m b (sumV (S.take s) b + v, sumC (strL bl sc) (S.take s) b + strL bl sc b v) = m' at *
  generalize sumV (S.take s) b = sv at *
  generalize sumC (strL bl sc) (S.take s) b = scy at *
  have h1 : IntKind.i64.wrap ((s : Int) + 1) = (s : Int) + 1 := wrap64 (by omega) (by omega)
  have h3 : decide ((S.length : Int) ≤ s) = false := by simp; omega
  have h3' : decide (S.length ≤ s) = false := by simp; omega
  have h4 : decide (s < S.length) = true := by simp; omega
  have hob := ho b.toNat (by omega)
  have hbd := strL_bd (bl := bl) (sc := sc) (b := b) (v := (v : Int)) hob (by omega) (by omega)
  obtain ⟨-, -, -, s1, s2, s3⟩ := e28 hs (i := b.toNat) (by omega)
  have g1 := LS22 s1
  have g2 := LS22 s2
  have g3 := LS22 s3
  obtain ⟨o1, o2, o3, o4⟩ := hob
  obtain ⟨d19, q19⟩ := rtI_val (tot19 K (ic sc b.toNat 0) (ic sc b.toNat 1) v _ _ _ s1 s2 s3 o1 o2 o3 o4 (by omega) (by omega))
  rw [visV_str hvs] at q19
  have c1 : decide (b < 0) = false := by simp; omega
  have c2 : decide ((lenV sc : Int) ≤ b) = false := by simp; omega
  have hr := sc_row hs c1 c2
  have w1 : IntKind.i64.wrap (sv + v) = sv + v := wrap64 (by omega) (by omega)
  have w2 : IntKind.i64.wrap (scy + strL bl sc b v) = scy + strL bl sc b v := wrap64 (by omega) (by omega)
  have fin : ∀ d, (fun t => ∃ d, t = T11 sc S.length (s + 1) [bxM m', bxL S] d) (T11 sc S.length (s + 1) [bxM m', bxL S] d) := fun d => ⟨d, rfl⟩
  generalize (fun t => ∃ d, t = T11 sc S.length (s + 1) [bxM m', bxL S] d) = II at fin ⊢
  simp only [T11, bxM, bxL, Int.natCast_add, Int.natCast_one] at fin
  have hbar : barrierW c11_r0 c11_a0 [(1, false, [3]), (4, false, [2]), (8, false, [2]), (12, true, [3])] 12 [3] = true := by decide
  unfold c11_r0 c11_a0 at hbar
  unfold c11_b1 T11 bxM bxL
  generalize m'.map rwM = es' at *
  generalize m.map rwM = es at *
  simp (contextual := true) (maxSteps := 10000000) (implicitDefEqProofs := false) [c11_r0, c11_a0, hbar, h1, h3, h3', h4, hSl, hget, -getElem?_pos, List.getElem?_cons_zero, List.getElem?_cons_succ, c1, c2, hr, hlk, hup, celM, keyIs, w1, w2, callV_pu, q19, gc.all, g1.all, g2.all, g3.all, kIadr_LS gc, freezeH, -List.getElem?_map, -List.length_map, execI.eq_31, execI.eq_32, execI.eq_33, fin, Go1_kif, Go1_ret, Go1_normal, Go1_exit, RtF_ret, ex_eq, ex_eq2, tidy, kCond_kc, kc_kif, ↓kif_tr, ↓kif_fl, kif_tr, kif_fl, kif_same, ↓kif_not, ↓kif_or, ↓kifg_tr, ↓kifg_fl, ↓kifg_not, ↓kifg_or, ↓kifg_and, kifg_kif, kifB_t, kifB_f, kifB_ft, kifB_tt, kif_bool, kif_int, mergeL, mergeV, mergeS, mergeRs, kSeq_kif, kBlk_kif, kPost_kif, kNext_kif, kFin_kif, kReg_kif, kOps_kif, kO_kif, kG_kif, kDrw_kif, kW_kif, kOpsW_kif, kRet_kif, map_kif, bind_kif, kWant_t, kWant_f, kWant_kif, ↓execI_pick, kPick_bool, kPick_kif, ↓execI_iadr, kIadr_sl, ↓execI_idxs, kIdxs_str, ↓execI_len, ↓rdB_ld, kRd_ptr, kRd_tptr, kRd_tup, kRd_kif, kOpsW_bs, gt0, st0, gt1, st1, gt2, st2, gt3, st3, gt4, st4, gt5, st5, gt6, st6, gt7, st7, gt8, st8, -kWant_bool, -Int.not_le, -Int.not_lt, -decide_eq_true_eq, -decide_eq_false_iff_not, -List.getD_eq_getElem?_getD, -List.set_cons_succ, -List.set_cons_zero, -Bool.and_eq_true, -Bool.or_eq_true, -Bool.not_eq_eq_eq_not, -Bool.or_eq_false_iff, -Bool.and_eq_false_imp, -Bool.not_eq_true, -Bool.not_eq_false]
theorem x11 (call : CallT) (K : Nat) (bl sc : V) (S : List (Int × Nat)) (t : St) (ht : I11 bl sc S S.length t) : Nn (execC call pu 0 K c11_b1 t) := by
  obtain ⟨d, rfl⟩ := ht
  unfold c11_b1 T11
  simp (contextual := true) (maxSteps := 10000000) (implicitDefEqProofs := false) [Nn_exit, kCond_kc, kc_kif, ↓kif_tr, ↓kif_fl, kif_tr, kif_fl, kif_same, ↓kif_not, ↓kif_or, ↓kifg_tr, ↓kifg_fl, ↓kifg_not, ↓kifg_or, ↓kifg_and, kifg_kif, kifB_t, kifB_f, kifB_ft, kifB_tt, kif_bool, kif_int, mergeL, mergeV, mergeS, mergeRs, kSeq_kif, kBlk_kif, kPost_kif, kNext_kif, kFin_kif, kReg_kif, kOps_kif, kO_kif, kG_kif, kDrw_kif, kW_kif, kOpsW_kif, kRet_kif, map_kif, bind_kif, kWant_t, kWant_f, kWant_kif, ↓execI_pick, kPick_bool, kPick_kif, ↓execI_iadr, kIadr_sl, ↓execI_idxs, kIdxs_str, ↓execI_len, ↓rdB_ld, kRd_ptr, kRd_tptr, kRd_tup, kRd_kif, kOpsW_bs, gt0, st0, gt1, st1, gt2, st2, gt3, st3, gt4, st4, gt5, st5, gt6, st6, gt7, st7, gt8, st8, -kWant_bool, -Int.not_le, -Int.not_lt, -decide_eq_true_eq, -decide_eq_false_iff_not, -List.getD_eq_getElem?_getD, -List.set_cons_succ, -List.set_cons_zero, -Bool.and_eq_true, -Bool.or_eq_true, -Bool.not_eq_eq_eq_not, -Bool.or_eq_false_iff, -Bool.and_eq_false_imp, -Bool.not_eq_true, -Bool.not_eq_false]
end Go.AM.Ytegibclhopenmaa

set_option linter.unusedVariables false
set_option linter.unusedSimpArgs false
namespace Go.AM.Ytegibclhopenmaa
open Go Go.AM
set_option maxRecDepth 100000
set_option maxHeartbeats 0
attribute [local congr] kif_congr
theorem lkM_mem {m : Mp} {b : Int} (h : b ∈ m.map (·.1)) : lkV (some .i64) true (.agg [.int .i64 0, .int .i64 0, .int .i64 0]) false (.int .i64 b) (m.map rwM) = some (.agg [.int .i64 b, .int .i64 (getM m b).1, .int .i64 (getM m b).2]) := by
  rcases findM b m 0 with ⟨-, -, h3⟩ | ⟨j, -, h2, -⟩
  · have e := keys_put m b (0, 0)
    rw [if_pos h, h3] at e
    have := congrArg List.length e
    simp at this
  · simp [lkV, h2, valM]
theorem keysI_map (m : Mp) : keysI (m.map rwM) = some (m.map (·.1)) := by
  induction m with
  | nil => rfl
  | cons x m ih => simp [keysI, rwM, ← ih]
def bxK (j : Nat) : Blk := ⟨1, [[.mp j]], 0, true, false⟩
theorem ora20 {m : Mp} (hnd : (m.map (·.1)).Nodup) (hl : m.length ≤ 60) (hw : ∀ k : Int, k ∈ m.map (·.1) → 0 ≤ k ∧ k ≤ (LMAX : Nat)) : oraKey 20 36 20 [.fn 36 [.ptr 0 1 0 0]] [bxK 1, bxM m] = some (sortedV (m.map (·.1)), [bxK 1, bxM m], false) := by
  have h1 : (m.map (·.1)).length ≤ 1000 := by simp; omega
  have h2 : ((m.map (·.1)).all fun k => (Lit.int .i64 k).wf) = true := by
    rw [List.all_eq_true]
    intro k hk
    have := hw k hk
    simp only [LMAX] at this
    simp [Lit.wf, IntKind.min, IntKind.max, IntKind.signed, IntKind.bits]
    omega
  have h3 : oraRows (m.map rwM) = some (sortedV (m.map (·.1)), false) := by
    unfold oraRows
    rw [keysI_map, Option.bind_some, if_pos ⟨hnd, h1, h2⟩]
  simp [oraKey, bxK, bxM, h3]
theorem callV_ref {call : CallT} {H : Heap} {f : FuncId} {args : List V} (h : pu f = false) : callV call pu H f args = (renL (place (reach H 50 [] (refsL args))) args).bind fun as' => (pickH H (place (reach H 50 [] (refsL args))) (reach H 50 [] (refsL args))).bind fun Hs => (call f as' Hs).bind fun r =>
    (r.1.ren (backG (reach H 50 [] (refsL args)) H.length)).bind fun v' => (renH (backG (reach H 50 [] (refsL args)) H.length) r.2.1).map fun Hn =>
      (v', if r.2.2 then .upd (putBack Hn 0 (reach H 50 [] (refsL args)) H ++ Hn.drop (reach H 50 [] (refsL args)).length) (reach H 50 [] (refsL args)) else .new (Hn.drop (reach H 50 [] (refsL args)).length)) := by
  unfold callV
  rw [if_neg (by rw [h]; decide)]
theorem tot21 (k : Nat) (m : Mp) : callF tbl pu (k + 1) 21 [.mp 0] [bxM m] = some (.fn 36 [.ptr 1 1 0 0], [bxM m, bxK 0], false) := by
  rw [callF_eq tbl21, c21]
  unfold bxM bxK
  generalize m.map rwM = es
  simp (contextual := true) (maxSteps := 10000000) (implicitDefEqProofs := false) [V.cell, V.flat, V.cells, execI.eq_31, kCond_kc, kc_kif, ↓kif_tr, ↓kif_fl, kif_tr, kif_fl, kif_same, ↓kif_not, ↓kif_or, ↓kifg_tr, ↓kifg_fl, ↓kifg_not, ↓kifg_or, ↓kifg_and, kifg_kif, kifB_t, kifB_f, kifB_ft, kifB_tt, kif_bool, kif_int, mergeL, mergeV, mergeS, mergeRs, kSeq_kif, kBlk_kif, kPost_kif, kNext_kif, kFin_kif, kReg_kif, kOps_kif, kO_kif, kG_kif, kDrw_kif, kW_kif, kOpsW_kif, kRet_kif, map_kif, bind_kif, kWant_t, kWant_f, kWant_kif, ↓execI_pick, kPick_bool, kPick_kif, ↓execI_iadr, kIadr_sl, ↓execI_idxs, kIdxs_str, ↓execI_len, ↓rdB_ld, kRd_ptr, kRd_tptr, kRd_tup, kRd_kif, kOpsW_bs, gt0, st0, gt1, st1, gt2, st2, gt3, st3, gt4, st4, gt5, st5, gt6, st6, gt7, st7, gt8, st8, -kWant_bool, -Int.not_le, -Int.not_lt, -decide_eq_true_eq, -decide_eq_false_iff_not, -List.getD_eq_getElem?_getD, -List.set_cons_succ, -List.set_cons_zero, -Bool.and_eq_true, -Bool.or_eq_true, -Bool.not_eq_eq_eq_not, -Bool.or_eq_false_iff, -Bool.and_eq_false_imp, -Bool.not_eq_true, -Bool.not_eq_false]
theorem call21 (k : Nat) (m : Mp) (B : Blk) : callV (callF tbl pu (k + 1)) pu [bxM m, B] 21 [.mp 0] = some (.fn 36 [.ptr 2 1 0 0], .new [bxK 0]) := by
  rw [callV_ref (by decide)]
  have e : reach [bxM m, B] 50 [] (refsL [.mp 0]) = [0] := by
    unfold bxM
    generalize m.map rwM = es
    simp [refsL, V.refs, reach]
  rw [e]
  have q := tot21 k m
  unfold bxM bxK at *
  generalize m.map rwM = es at *
  simp [renL, V.ren, place, pickH, Blk.ren, q, backG, renH]
theorem call20 (k : Nat) {m : Mp} (hnd : (m.map (·.1)).Nodup) (hl : m.length ≤ 60) (hw : ∀ k : Int, k ∈ m.map (·.1) → 0 ≤ k ∧ k ≤ (LMAX : Nat)) (B : Blk) : callV (callF tbl pu (k + 1)) pu [bxM m, B, bxK 0] 20 [.fn 36 [.ptr 2 1 0 0]] = some (sortedV (m.map (·.1)), .new []) := by
  rw [callV_ref (by decide)]
  have e : reach [bxM m, B, bxK 0] 50 [] (refsL [.fn 36 [.ptr 2 1 0 0]]) = [2, 0] := by
    unfold bxM bxK
    generalize m.map rwM = es
    simp [refsL, V.refs, reach]
  rw [e]
  have q : callF tbl pu (k + 1) 20 [.fn 36 [.ptr 0 1 0 0]] [bxK 1, bxM m] = some (sortedV (m.map (·.1)), [bxK 1, bxM m], false) := (callF_ora rfl).trans (ora20 hnd hl hw)
  have hv : (sortedV (m.map (·.1))).ren (backG [2, 0] 3) = some (sortedV (m.map (·.1))) := by
    unfold sortedV; split <;> rfl
  generalize sortedV (m.map (·.1)) = sv at *
  unfold bxM bxK at *
  generalize m.map rwM = es at *
  have p2 : place [2, 0] 2 = some 0 := rfl
  have p0 : place [2, 0] 0 = some 1 := rfl
  simp [renL, V.ren, p0, p2, -place_cons, pickH, Blk.ren, q, hv, backG, renH]
/-! The second loop. -/
def rwR (x : Int × Int × Int) : List V := [.int .i64 x.1, .int .i64 x.2.1, .int .i64 x.2.2]
def bxR (L : Mp) : Blk := ⟨3, L.map rwR, 0, false, true⟩
def T11b (ks out : V) (n j : Nat) (H : Heap) (d : Bool) : St := ⟨[.undef, .undef, .undef, .undef, .undef, .undef, .undef, .undef, .undef, .undef, .mp 0, .undef, .undef, .undef, out, .undef, .undef, .undef, .undef, .undef, .undef, .undef, .undef, .undef, .undef, .undef, .undef, .undef, .undef, .undef, .undef, .undef, .undef, .undef, .undef, .undef, .undef, .undef, .undef, .undef, .undef, .undef, .undef, .undef, .undef, .undef, .undef, .undef, .undef, .undef, .undef, .undef, .undef, .undef, .undef, .undef, .undef, .undef, .undef, .undef, .undef, .undef, .undef, .undef, .undef, .undef, ks, .int .i64 n, .int .i64 j, .undef, .undef, .undef, .undef, .undef, .undef, .undef, .undef, .undef, .undef, .undef], H, d⟩
def J11 (ks : V) (n : Nat) (m : Mp) (L : Mp) (j : Nat) (t : St) : Prop := ∃ d, (L = [] ∧ t = T11b ks .nils n j [bxM m] d) ∨ (0 < L.length ∧ t = T11b ks (.sl 3 1 L.length 0 L.length) n j [bxM m, bxR L] d)
theorem g11b (call : CallT) (K : Nat) (kv : V) (gk : LS 1 kv) (m L : Mp) (n j : Nat) (b : Int) (hn : n ≤ 60) (hL : L.length ≤ 60) (hkn : lenV kv = n) (hj : j < n) (hrow : row kv j = [.int .i64 b]) (hb : b ∈ m.map (·.1)) (t : St) (ht : J11 kv n m L j t) :
    Go1 (tidy [10, 14, 66, 67, 68] 0) (J11 kv n m (L ++ [(b, getM m b)]) (j + 1)) (fun _ => False) (execC call pu 0 K c11_b0 t) := by
  obtain ⟨d, ht⟩ := ht
  have hlk := lkM_mem hb
  have h1 : IntKind.i64.wrap ((j : Int) + 1) = (j : Int) + 1 := wrap64 (by omega) (by omega)
  have h3 : decide (n ≤ j) = false := by simp; omega
  have h4 : decide (j < n) = true := by simp; omega
  generalize getM m b = p at *
  obtain ⟨p1, p2⟩ := p
  simp only at hlk
  have e0 : ∀ L : Mp, L ++ [(b, p1, p2)] = L ++ [(b, p1, p2)] := fun _ => rfl
  rcases ht with ⟨rfl, rfl⟩ | ⟨hl0, rfl⟩
  · have fin : ∀ d, J11 kv n m ([] ++ [(b, p1, p2)]) (j + 1) (T11b kv (.sl 3 1 1 0 1) n (j + 1) [bxM m, bxR [(b, p1, p2)]] d) := fun d => ⟨d, .inr ⟨by simp, rfl⟩⟩
    generalize J11 kv n m ([] ++ [(b, p1, p2)]) (j + 1) = II at fin ⊢
    simp only [T11b, bxM, bxR, rwR, List.map_cons, List.map_nil, Int.natCast_add, Int.natCast_one] at fin
    unfold c11_b0 T11b bxM
    generalize m.map rwM = es at *
    simp (contextual := true) (maxSteps := 10000000) (implicitDefEqProofs := false) [h1, h3, h4, hrow, hlk, hkn, keyIs, gk.all, kIadr_LS gk, appV, elemsOf, roomB, freezeH, execI.eq_31, execI.eq_32, execI.eq_33, fin, Go1_kif, Go1_ret, Go1_normal, Go1_exit, RtF_ret, ex_eq, ex_eq2, tidy, kCond_kc, kc_kif, ↓kif_tr, ↓kif_fl, kif_tr, kif_fl, kif_same, ↓kif_not, ↓kif_or, ↓kifg_tr, ↓kifg_fl, ↓kifg_not, ↓kifg_or, ↓kifg_and, kifg_kif, kifB_t, kifB_f, kifB_ft, kifB_tt, kif_bool, kif_int, mergeL, mergeV, mergeS, mergeRs, kSeq_kif, kBlk_kif, kPost_kif, kNext_kif, kFin_kif, kReg_kif, kOps_kif, kO_kif, kG_kif, kDrw_kif, kW_kif, kOpsW_kif, kRet_kif, map_kif, bind_kif, kWant_t, kWant_f, kWant_kif, ↓execI_pick, kPick_bool, kPick_kif, ↓execI_iadr, kIadr_sl, ↓execI_idxs, kIdxs_str, ↓execI_len, ↓rdB_ld, kRd_ptr, kRd_tptr, kRd_tup, kRd_kif, kOpsW_bs, gt0, st0, gt1, st1, gt2, st2, gt3, st3, gt4, st4, gt5, st5, gt6, st6, gt7, st7, gt8, st8, -kWant_bool, -Int.not_le, -Int.not_lt, -decide_eq_true_eq, -decide_eq_false_iff_not, -List.getD_eq_getElem?_getD, -List.set_cons_succ, -List.set_cons_zero, -Bool.and_eq_true, -Bool.or_eq_true, -Bool.not_eq_eq_eq_not, -Bool.or_eq_false_iff, -Bool.and_eq_false_imp, -Bool.not_eq_true, -Bool.not_eq_false]
  · have r1 : (L.length + 1) * 24 ≤ 140737488351232 := by omega
    have r2 : L.length + 1 ≤ 140737488351232 := by omega
    have lg : ¬ L.length + 1 ≤ L.length := by omega
    have hl : (L.map rwR).length = L.length := by simp
    have tak : (L.map rwR).take L.length = L.map rwR := List.take_of_length_le (by omega)
    have dr : (L.map rwR).drop (L.length + 1) = [] := List.drop_eq_nil_of_le (by omega)
    have fin : ∀ d, J11 kv n m (L ++ [(b, p1, p2)]) (j + 1) (T11b kv (.sl 3 1 (L.length + 1) 0 (L.length + 1)) n (j + 1) [bxM m, bxR (L ++ [(b, p1, p2)])] d) := fun d => ⟨d, .inr ⟨by simp, by simp⟩⟩
    generalize J11 kv n m (L ++ [(b, p1, p2)]) (j + 1) = II at fin ⊢
    simp only [T11b, bxM, bxR, List.map_append, List.map_cons, List.map_nil, rwR, Int.natCast_add, Int.natCast_one] at fin
    unfold c11_b0 T11b bxM bxR
    generalize m.map rwM = es at *
    have ef : (fun x : Int × Int × Int => [V.int .i64 x.1, V.int .i64 x.2.1, V.int .i64 x.2.2]) = rwR := rfl
    generalize L.map rwR = os at *
    simp (contextual := true) (maxSteps := 10000000) (implicitDefEqProofs := false) [h1, h3, h4, hrow, hlk, hkn, hl, r1, r2, lg, tak, dr, keyIs, gk.all, kIadr_LS gk, appV, elemsOf, roomB, freezeH, execI.eq_31, execI.eq_32, execI.eq_33, fin, Go1_kif, Go1_ret, Go1_normal, Go1_exit, RtF_ret, ex_eq, ex_eq2, tidy, kCond_kc, kc_kif, ↓kif_tr, ↓kif_fl, kif_tr, kif_fl, kif_same, ↓kif_not, ↓kif_or, ↓kifg_tr, ↓kifg_fl, ↓kifg_not, ↓kifg_or, ↓kifg_and, kifg_kif, kifB_t, kifB_f, kifB_ft, kifB_tt, kif_bool, kif_int, mergeL, mergeV, mergeS, mergeRs, kSeq_kif, kBlk_kif, kPost_kif, kNext_kif, kFin_kif, kReg_kif, kOps_kif, kO_kif, kG_kif, kDrw_kif, kW_kif, kOpsW_kif, kRet_kif, map_kif, bind_kif, kWant_t, kWant_f, kWant_kif, ↓execI_pick, kPick_bool, kPick_kif, ↓execI_iadr, kIadr_sl, ↓execI_idxs, kIdxs_str, ↓execI_len, ↓rdB_ld, kRd_ptr, kRd_tptr, kRd_tup, kRd_kif, kOpsW_bs, gt0, st0, gt1, st1, gt2, st2, gt3, st3, gt4, st4, gt5, st5, gt6, st6, gt7, st7, gt8, st8, -kWant_bool, -Int.not_le, -Int.not_lt, -decide_eq_true_eq, -decide_eq_false_iff_not, -List.getD_eq_getElem?_getD, -List.set_cons_succ, -List.set_cons_zero, -Bool.and_eq_true, -Bool.or_eq_true, -Bool.not_eq_eq_eq_not, -Bool.or_eq_false_iff, -Bool.and_eq_false_imp, -Bool.not_eq_true, -Bool.not_eq_false]
theorem x11b (call : CallT) (K : Nat) (kv : V) (n : Nat) (m L : Mp) (t : St) (ht : J11 kv n m L n t) : Nn (execC call pu 0 K c11_b0 t) := by
  obtain ⟨d, ht⟩ := ht
  rcases ht with ⟨hs, rfl⟩ | ⟨hs, rfl⟩
  · unfold c11_b0 T11b
    simp (contextual := true) (maxSteps := 10000000) (implicitDefEqProofs := false) [Nn_exit, kCond_kc, kc_kif, ↓kif_tr, ↓kif_fl, kif_tr, kif_fl, kif_same, ↓kif_not, ↓kif_or, ↓kifg_tr, ↓kifg_fl, ↓kifg_not, ↓kifg_or, ↓kifg_and, kifg_kif, kifB_t, kifB_f, kifB_ft, kifB_tt, kif_bool, kif_int, mergeL, mergeV, mergeS, mergeRs, kSeq_kif, kBlk_kif, kPost_kif, kNext_kif, kFin_kif, kReg_kif, kOps_kif, kO_kif, kG_kif, kDrw_kif, kW_kif, kOpsW_kif, kRet_kif, map_kif, bind_kif, kWant_t, kWant_f, kWant_kif, ↓execI_pick, kPick_bool, kPick_kif, ↓execI_iadr, kIadr_sl, ↓execI_idxs, kIdxs_str, ↓execI_len, ↓rdB_ld, kRd_ptr, kRd_tptr, kRd_tup, kRd_kif, kOpsW_bs, gt0, st0, gt1, st1, gt2, st2, gt3, st3, gt4, st4, gt5, st5, gt6, st6, gt7, st7, gt8, st8, -kWant_bool, -Int.not_le, -Int.not_lt, -decide_eq_true_eq, -decide_eq_false_iff_not, -List.getD_eq_getElem?_getD, -List.set_cons_succ, -List.set_cons_zero, -Bool.and_eq_true, -Bool.or_eq_true, -Bool.not_eq_eq_eq_not, -Bool.or_eq_false_iff, -Bool.and_eq_false_imp, -Bool.not_eq_true, -Bool.not_eq_false]
  · unfold c11_b0 T11b
    simp (contextual := true) (maxSteps := 10000000) (implicitDefEqProofs := false) [Nn_exit, kCond_kc, kc_kif, ↓kif_tr, ↓kif_fl, kif_tr, kif_fl, kif_same, ↓kif_not, ↓kif_or, ↓kifg_tr, ↓kifg_fl, ↓kifg_not, ↓kifg_or, ↓kifg_and, kifg_kif, kifB_t, kifB_f, kifB_ft, kifB_tt, kif_bool, kif_int, mergeL, mergeV, mergeS, mergeRs, kSeq_kif, kBlk_kif, kPost_kif, kNext_kif, kFin_kif, kReg_kif, kOps_kif, kO_kif, kG_kif, kDrw_kif, kW_kif, kOpsW_kif, kRet_kif, map_kif, bind_kif, kWant_t, kWant_f, kWant_kif, ↓execI_pick, kPick_bool, kPick_kif, ↓execI_iadr, kIadr_sl, ↓execI_idxs, kIdxs_str, ↓execI_len, ↓rdB_ld, kRd_ptr, kRd_tptr, kRd_tup, kRd_kif, kOpsW_bs, gt0, st0, gt1, st1, gt2, st2, gt3, st3, gt4, st4, gt5, st5, gt6, st6, gt7, st7, gt8, st8, -kWant_bool, -Int.not_le, -Int.not_lt, -decide_eq_true_eq, -decide_eq_false_iff_not, -List.getD_eq_getElem?_getD, -List.set_cons_succ, -List.set_cons_zero, -Bool.and_eq_true, -Bool.or_eq_true, -Bool.not_eq_eq_eq_not, -Bool.or_eq_false_iff, -Bool.and_eq_false_imp, -Bool.not_eq_true, -Bool.not_eq_false]
end Go.AM.Ytegibclhopenmaa

set_option linter.unusedVariables false
set_option linter.unusedSimpArgs false
namespace Go.AM.Ytegibclhopenmaa
open Go Go.AM
set_option maxRecDepth 100000
set_option maxHeartbeats 0
attribute [local congr] kif_congr
theorem stA_str (bl sc pa : V) : ∀ j, ∀ x ∈ stA bl sc pa j, x.2 = 1 ∨ SPp bl sc x.1
  | 0 => by
    intro x hx
    simp [stA, ct] at hx
    subst hx
    exact .inl rfl
  | j + 1 => by
    have ih := stA_str bl sc pa j
    intro x hx
    by_cases cs : ic pa j 0 = ic pa (j + 1) 0 ∧ SPp bl sc (ic pa (j + 1) 0)
    · have hct : ct bl sc pa (j + 1) = ((ct bl sc pa j).1, (ct bl sc pa j).2 + 1) := by simp only [ct]; rw [if_pos cs]
      unfold stA at hx
      rw [hct] at hx
      rcases List.mem_append.1 hx with h1 | h1
      · exact ih x (by unfold stA; exact List.mem_append.2 (.inl h1))
      · obtain rfl := List.mem_singleton.1 h1
        exact .inr cs.2
    · have hct : ct bl sc pa (j + 1) = ((ct bl sc pa j).1 ++ [(ic pa j 0, (ct bl sc pa j).2)], 1) := by simp only [ct]; rw [if_neg cs]
      unfold stA at hx
      rw [hct] at hx
      rcases List.mem_append.1 hx with h1 | h1
      · exact ih x (by unfold stA; exact h1)
      · obtain rfl := List.mem_singleton.1 h1
        exact .inl rfl
theorem getD_mem {S : List (Int × Nat)} {s : Nat} (h : s < S.length) : S.getD s (0, 0) ∈ S := by
  rw [List.getD_eq_getElem?_getD, List.getElem?_eq_getElem h]
  exact List.getElem_mem h
theorem good_okT {bl sc pa : V} (h : Good bl sc pa) (hn : lenV pa ≤ 60) : OkT bl sc (stA bl sc pa (lenV pa - 1)) :=
  ⟨good_ok h hn, fun s hs => stA_str bl sc pa _ _ (getD_mem hs)⟩
/-- the shares -/
def blkL (bl sc pa : V) : Mp := shL (accM (strL bl sc) (stA bl sc pa (lenV pa - 1)))
theorem bxM_ren (m : Mp) (g : Nat → Option Nat) : (bxM m).ren g = some (bxM m) := rfl
theorem bxM_box (m : Mp) : (bxM m).box = false := rfl
theorem bxL_box (S : List (Int × Nat)) : (bxL S).box = false := rfl
theorem bxR_box (L : Mp) : (bxR L).box = false := rfl
theorem bxL_ren (S : List (Int × Nat)) (g : Nat → Option Nat) : (bxL S).ren g = some (bxL S) := rfl
theorem bxR_ren (L : Mp) (g : Nat → Option Nat) : (bxR L).ren g = some (bxR L) := rfl
theorem sorted_row {ks : List Int} (hk : ks ≠ []) : LS 1 (sortedV ks) ∧ lenV (sortedV ks) = ks.length ∧ ∀ j (hj : j < ks.length), row (sortedV ks) j = [.int .i64 ((ks.mergeSort leZ)[j]'(by rw [List.length_mergeSort]; exact hj))] := by
  unfold sortedV
  rw [if_neg hk]
  refine ⟨.inr ⟨_, rfl⟩, by simp [lenV], fun j hj => ?_⟩
  have : j < (ks.mergeSort leZ).length := by rw [List.length_mergeSort]; exact hj
  simp only [row, rowsV, List.getD_eq_getElem?_getD, List.getElem?_map, List.getElem?_eq_getElem this]
  rfl
theorem loop11b (call : CallT) (K : Nat) {m : Mp} (hm : m ≠ []) (hl : m.length ≤ 60) (hK : 60 < K) (dd : Bool) : ∃ d, ∀ s, tidy [10, 14, 66, 67, 68] 0 s = some (T11b (sortedV (m.map (·.1))) .nils m.length 0 [bxM m] dd) →
    iter (tidy [10, 14, 66, 67, 68] 0) (execC call pu 0 K c11_b0) K s = execC call pu 0 K c11_b0 (T11b (sortedV (m.map (·.1))) (.sl 3 1 (shL m).length 0 (shL m).length) m.length m.length [bxM m, bxR (shL m)] d) := by
  have hks : m.map (·.1) ≠ [] := fun h => hm (List.map_eq_nil_iff.1 h)
  obtain ⟨gk, hlk, hrow⟩ := sorted_row hks
  have hkl : (m.map (·.1)).length = m.length := by simp
  have hsl : ((m.map (·.1)).mergeSort leZ).length = m.length := by simp
  generalize hkv : sortedV (m.map (·.1)) = kv at *
  rcases loop_go (I := fun j t => J11 kv m.length m ((shL m).take j) j t) (R := fun _ => False) (N := m.length) (t0 := T11b kv .nils m.length 0 [bxM m] dd) (pre := tidy [10, 14, 66, 67, 68] 0) (f := execC call pu 0 K c11_b0) (fun j t hj ht => by
    have hj' : j < ((m.map (·.1)).mergeSort leZ).length := by omega
    have hb : ((m.map (·.1)).mergeSort leZ)[j] ∈ m.map (·.1) := List.mem_mergeSort.1 (List.getElem_mem hj')
    have htk : (shL m).take (j + 1) = (shL m).take j ++ [(((m.map (·.1)).mergeSort leZ)[j], getM m ((m.map (·.1)).mergeSort leZ)[j])] := by
      rw [List.take_add_one]
      unfold shL
      rw [List.getElem?_map, List.getElem?_eq_getElem hj']
      rfl
    rw [htk]
    exact g11b call K kv gk m _ m.length j _ hl (by rw [List.length_take]; omega) (by omega) hj (hrow j (by omega)) hb t ht) (fun t ht => x11b call K kv m.length m _ t ht) ⟨dd, .inl ⟨by simp, rfl⟩⟩ with ⟨t, ⟨d, ht⟩, hl'⟩ | ⟨r, hr, hl'⟩
  case inr => exact hr.elim
  have hfull : (shL m).take m.length = shL m := List.take_of_length_le (by unfold shL; simp)
  rw [hfull] at ht
  have h0 : (shL m).length = m.length := by unfold shL; simp
  have hm0 : 0 < m.length := List.length_pos_iff.2 hm
  rcases ht with ⟨h1, -⟩ | ⟨-, rfl⟩
  · rw [h1] at h0; simp at h0; omega
  exact ⟨d, fun s hs => hl' s K (by omega) hs⟩
/-- returns v, and blocks behind it -/
def RtH (v : V) (Hs : Heap) (x : Res) : Prop := ∃ d, x = some (v, Hs, d)
theorem RtH_some {v v' : V} {Hs Hs' : Heap} {d : Bool} : RtH v Hs (some (v', Hs', d)) = (v' = v ∧ Hs' = Hs) := by simp [RtH]
theorem tot11 (K : Nat) (hK : BIG ≤ K) (nm : ByteArray) (w ar st rt bl : V) (h : OkF nm w ar st rt bl) (sc pa : V) (hs : S28 [sc]) (hp : S22 [pa]) (hn : lenV pa ≤ 60) (ho : ∀ j, j < lenV sc → okS sc j) :
    (Good bl sc pa ∧ ∃ d, callF tbl pu (K + 3) 11 [.agg [.str nm, w, ar, st, rt, bl], sc, pa] [] = some (.tup [.sl 3 0 (blkL bl sc pa).length 0 (blkL bl sc pa).length, .int .i64 0], [bxR (blkL bl sc pa)], d)) ∨
    (¬ Good bl sc pa ∧ ∃ d, callF tbl pu (K + 3) 11 [.agg [.str nm, w, ar, st, rt, bl], sc, pa] [] = some (.tup [.nils, .int .i64 3], [], d)) := by
  rw [callF_eq tbl11, c11]
  have gw := LS22 h.w
  have ga := LS23 h.ar
  have gs := LS24 h.st
  have gr := LS22 h.rt
  have gb := LS25 h.bl
  have gc := LS28 hs
  have gp := LS22 hp
  rcases tot12 K hK nm w ar st rt bl h sc pa hs hp hn with ⟨hg, d0, q12⟩ | ⟨hg, d0, q12⟩
  · refine .inl ⟨hg, ?_⟩
    have hS := good_okT hg hn
    have hm : spM bl sc pa = (stA bl sc pa (lenV pa - 1)).length := by simp [spM, stA]
    have hb : spB bl sc pa = bxL (stA bl sc pa (lenV pa - 1)) := rfl
    have hS1 : 0 < (stA bl sc pa (lenV pa - 1)).length := by simp [stA]
    rw [hm, hb] at q12
    unfold blkL
    generalize stA bl sc pa (lenV pa - 1) = S at *
    have M1 : S.length < K + 2 := big_lt (by have := hS.1.1; simp only [LMAX]; omega) (big_add 2 hK)
    rcases loop_go (t0 := T11 sc S.length 0 [bxM [], bxL S] false) (pre := tidy [1, 10, 28, 29, 30] 0) (fun s t hsl ht => g11 (K + 1) (big_add 1 hK) bl sc hs S hS ho s hsl t ht) (fun t ht => x11 (callF tbl pu (K + 2)) (K + 2) bl sc S t ht) ⟨_, rfl⟩ with ⟨t, ⟨d, rfl⟩, hl⟩ | ⟨r, hr, hl⟩
    case inr => exact hr.elim
    rw [List.take_length] at hl
    have hlen := accM_len (strL bl sc) S
    have hnd := accM_nodup (strL bl sc) S
    have hmem := accM_mem (strL bl sc) S
    have hwk : ∀ k : Int, k ∈ (accM (strL bl sc) S).map (·.1) → 0 ≤ k ∧ k ≤ (LMAX : Nat) := by
      intro k hk
      obtain ⟨x, hx, rfl⟩ := (hmem k).1 hk
      obtain ⟨i, hi, rfl⟩ := List.getElem_of_mem hx
      have := hS.1.2 i hi
      rw [List.getD_eq_getElem?_getD, List.getElem?_eq_getElem hi] at this
      have h2 := len28 hs
      simp only [Option.getD_some] at this
      omega
    have hne : accM (strL bl sc) S ≠ [] := by
      intro h0
      have hx : S[0] ∈ S := List.getElem_mem hS1
      have := (hmem (S[0]).1).2 ⟨_, hx, rfl⟩
      rw [h0] at this
      simp at this
    have hS60 := hS.1.1
    generalize accM (strL bl sc) S = m at *
    obtain ⟨d2, hl2⟩ := loop11b (callF tbl pu (K + 2)) (K + 2) hne (by omega) (big_lt (by simp only [LMAX]; omega) (big_add 2 hK)) d
    have q21 := call21 (K + 1) m (bxL S)
    have q20 := call20 (K + 1) hnd (by omega) hwk (bxL S)
    have hks : m.map (·.1) ≠ [] := fun h => hne (List.map_eq_nil_iff.1 h)
    obtain ⟨gk, hlk, -⟩ := sorted_row hks
    rw [List.length_map] at hlk
    generalize sortedV (m.map (·.1)) = kv at *
    generalize shL m = L at *
    have e0 : (⟨4, [[.bool true, .bool true, .bool true, .bool true]], 0, false, true⟩ : Blk) = bxM [] := rfl
    unfold bxL at q12
    have hq : ∀ x : Res, (∃ d, x = some (.tup [.sl 3 0 L.length 0 L.length, .int .i64 0], [bxR L], d)) = RtH (.tup [.sl 3 0 L.length 0 L.length, .int .i64 0]) [bxR L] x := fun _ => rfl
    rw [hq]
    simp (contextual := true) (maxSteps := 10000000) (implicitDefEqProofs := false) [gw.all, ga.all, gs.all, gr.all, gb.all, gc.all, gp.all, callV_pu, q12, kRet_tupsl, execC_loop, -kIter_succ, -List.getElem?_map, execI.eq_31, List.replicate_succ, List.replicate_zero, kCond_kc, kc_kif, ↓kif_tr, ↓kif_fl, kif_tr, kif_fl, kif_same, ↓kif_not, ↓kif_or, ↓kifg_tr, ↓kifg_fl, ↓kifg_not, ↓kifg_or, ↓kifg_and, kifg_kif, kifB_t, kifB_f, kifB_ft, kifB_tt, kif_bool, kif_int, mergeL, mergeV, mergeS, mergeRs, kSeq_kif, kBlk_kif, kPost_kif, kNext_kif, kFin_kif, kReg_kif, kOps_kif, kO_kif, kG_kif, kDrw_kif, kW_kif, kOpsW_kif, kRet_kif, map_kif, bind_kif, kWant_t, kWant_f, kWant_kif, ↓execI_pick, kPick_bool, kPick_kif, ↓execI_iadr, kIadr_sl, ↓execI_idxs, kIdxs_str, ↓execI_len, ↓rdB_ld, kRd_ptr, kRd_tptr, kRd_tup, kRd_kif, kOpsW_bs, gt0, st0, gt1, st1, gt2, st2, gt3, st3, gt4, st4, gt5, st5, gt6, st6, gt7, st7, gt8, st8, -kWant_bool, -Int.not_le, -Int.not_lt, -decide_eq_true_eq, -decide_eq_false_iff_not, -List.getD_eq_getElem?_getD, -List.set_cons_succ, -List.set_cons_zero, -Bool.and_eq_true, -Bool.or_eq_true, -Bool.not_eq_eq_eq_not, -Bool.or_eq_false_iff, -Bool.and_eq_false_imp, -Bool.not_eq_true, -Bool.not_eq_false]
    rw [hl _ _ M1 (by simp (contextual := true) (maxSteps := 10000000) (implicitDefEqProofs := false) [T11, bxM, bxL, tidy, gw.all, ga.all, gs.all, gr.all, gb.all, gc.all, -List.getElem?_map, List.map_nil, kCond_kc, kc_kif, ↓kif_tr, ↓kif_fl, kif_tr, kif_fl, kif_same, ↓kif_not, ↓kif_or, ↓kifg_tr, ↓kifg_fl, ↓kifg_not, ↓kifg_or, ↓kifg_and, kifg_kif, kifB_t, kifB_f, kifB_ft, kifB_tt, kif_bool, kif_int, mergeL, mergeV, mergeS, mergeRs, kSeq_kif, kBlk_kif, kPost_kif, kNext_kif, kFin_kif, kReg_kif, kOps_kif, kO_kif, kG_kif, kDrw_kif, kW_kif, kOpsW_kif, kRet_kif, map_kif, bind_kif, kWant_t, kWant_f, kWant_kif, ↓execI_pick, kPick_bool, kPick_kif, ↓execI_iadr, kIadr_sl, ↓execI_idxs, kIdxs_str, ↓execI_len, ↓rdB_ld, kRd_ptr, kRd_tptr, kRd_tup, kRd_kif, kOpsW_bs, gt0, st0, gt1, st1, gt2, st2, gt3, st3, gt4, st4, gt5, st5, gt6, st6, gt7, st7, gt8, st8, -kWant_bool, -Int.not_le, -Int.not_lt, -decide_eq_true_eq, -decide_eq_false_iff_not, -List.getD_eq_getElem?_getD, -List.set_cons_succ, -List.set_cons_zero, -Bool.and_eq_true, -Bool.or_eq_true, -Bool.not_eq_eq_eq_not, -Bool.or_eq_false_iff, -Bool.and_eq_false_imp, -Bool.not_eq_true, -Bool.not_eq_false])]
    simp (contextual := true) (maxSteps := 10000000) (implicitDefEqProofs := false) [T11, c11_b1, q21, q20, hlk, execC_loop, -kIter_succ, gk.all, -List.getElem?_map, kCond_kc, kc_kif, ↓kif_tr, ↓kif_fl, kif_tr, kif_fl, kif_same, ↓kif_not, ↓kif_or, ↓kifg_tr, ↓kifg_fl, ↓kifg_not, ↓kifg_or, ↓kifg_and, kifg_kif, kifB_t, kifB_f, kifB_ft, kifB_tt, kif_bool, kif_int, mergeL, mergeV, mergeS, mergeRs, kSeq_kif, kBlk_kif, kPost_kif, kNext_kif, kFin_kif, kReg_kif, kOps_kif, kO_kif, kG_kif, kDrw_kif, kW_kif, kOpsW_kif, kRet_kif, map_kif, bind_kif, kWant_t, kWant_f, kWant_kif, ↓execI_pick, kPick_bool, kPick_kif, ↓execI_iadr, kIadr_sl, ↓execI_idxs, kIdxs_str, ↓execI_len, ↓rdB_ld, kRd_ptr, kRd_tptr, kRd_tup, kRd_kif, kOpsW_bs, gt0, st0, gt1, st1, gt2, st2, gt3, st3, gt4, st4, gt5, st5, gt6, st6, gt7, st7, gt8, st8, -kWant_bool, -Int.not_le, -Int.not_lt, -decide_eq_true_eq, -decide_eq_false_iff_not, -List.getD_eq_getElem?_getD, -List.set_cons_succ, -List.set_cons_zero, -Bool.and_eq_true, -Bool.or_eq_true, -Bool.not_eq_eq_eq_not, -Bool.or_eq_false_iff, -Bool.and_eq_false_imp, -Bool.not_eq_true, -Bool.not_eq_false]
    rw [hl2 _ (by simp (contextual := true) (maxSteps := 10000000) (implicitDefEqProofs := false) [T11b, tidy, gk.all, bxM_ren, bxL_ren, bxM_box, bxL_box, kCond_kc, kc_kif, ↓kif_tr, ↓kif_fl, kif_tr, kif_fl, kif_same, ↓kif_not, ↓kif_or, ↓kifg_tr, ↓kifg_fl, ↓kifg_not, ↓kifg_or, ↓kifg_and, kifg_kif, kifB_t, kifB_f, kifB_ft, kifB_tt, kif_bool, kif_int, mergeL, mergeV, mergeS, mergeRs, kSeq_kif, kBlk_kif, kPost_kif, kNext_kif, kFin_kif, kReg_kif, kOps_kif, kO_kif, kG_kif, kDrw_kif, kW_kif, kOpsW_kif, kRet_kif, map_kif, bind_kif, kWant_t, kWant_f, kWant_kif, ↓execI_pick, kPick_bool, kPick_kif, ↓execI_iadr, kIadr_sl, ↓execI_idxs, kIdxs_str, ↓execI_len, ↓rdB_ld, kRd_ptr, kRd_tptr, kRd_tup, kRd_kif, kOpsW_bs, gt0, st0, gt1, st1, gt2, st2, gt3, st3, gt4, st4, gt5, st5, gt6, st6, gt7, st7, gt8, st8, -kWant_bool, -Int.not_le, -Int.not_lt, -decide_eq_true_eq, -decide_eq_false_iff_not, -List.getD_eq_getElem?_getD, -List.set_cons_succ, -List.set_cons_zero, -Bool.and_eq_true, -Bool.or_eq_true, -Bool.not_eq_eq_eq_not, -Bool.or_eq_false_iff, -Bool.and_eq_false_imp, -Bool.not_eq_true, -Bool.not_eq_false])]
    simp (contextual := true) (maxSteps := 10000000) (implicitDefEqProofs := false) [T11b, c11_b0, bxR_ren, bxM_box, bxR_box, RtH_some, kCond_kc, kc_kif, ↓kif_tr, ↓kif_fl, kif_tr, kif_fl, kif_same, ↓kif_not, ↓kif_or, ↓kifg_tr, ↓kifg_fl, ↓kifg_not, ↓kifg_or, ↓kifg_and, kifg_kif, kifB_t, kifB_f, kifB_ft, kifB_tt, kif_bool, kif_int, mergeL, mergeV, mergeS, mergeRs, kSeq_kif, kBlk_kif, kPost_kif, kNext_kif, kFin_kif, kReg_kif, kOps_kif, kO_kif, kG_kif, kDrw_kif, kW_kif, kOpsW_kif, kRet_kif, map_kif, bind_kif, kWant_t, kWant_f, kWant_kif, ↓execI_pick, kPick_bool, kPick_kif, ↓execI_iadr, kIadr_sl, ↓execI_idxs, kIdxs_str, ↓execI_len, ↓rdB_ld, kRd_ptr, kRd_tptr, kRd_tup, kRd_kif, kOpsW_bs, gt0, st0, gt1, st1, gt2, st2, gt3, st3, gt4, st4, gt5, st5, gt6, st6, gt7, st7, gt8, st8, -kWant_bool, -Int.not_le, -Int.not_lt, -decide_eq_true_eq, -decide_eq_false_iff_not, -List.getD_eq_getElem?_getD, -List.set_cons_succ, -List.set_cons_zero, -Bool.and_eq_true, -Bool.or_eq_true, -Bool.not_eq_eq_eq_not, -Bool.or_eq_false_iff, -Bool.and_eq_false_imp, -Bool.not_eq_true, -Bool.not_eq_false]
  · refine .inr ⟨hg, ?_⟩
    simp (contextual := true) (maxSteps := 10000000) (implicitDefEqProofs := false) [gw.all, ga.all, gs.all, gr.all, gb.all, gc.all, gp.all, callV_pu, q12, kCond_kc, kc_kif, ↓kif_tr, ↓kif_fl, kif_tr, kif_fl, kif_same, ↓kif_not, ↓kif_or, ↓kifg_tr, ↓kifg_fl, ↓kifg_not, ↓kifg_or, ↓kifg_and, kifg_kif, kifB_t, kifB_f, kifB_ft, kifB_tt, kif_bool, kif_int, mergeL, mergeV, mergeS, mergeRs, kSeq_kif, kBlk_kif, kPost_kif, kNext_kif, kFin_kif, kReg_kif, kOps_kif, kO_kif, kG_kif, kDrw_kif, kW_kif, kOpsW_kif, kRet_kif, map_kif, bind_kif, kWant_t, kWant_f, kWant_kif, ↓execI_pick, kPick_bool, kPick_kif, ↓execI_iadr, kIadr_sl, ↓execI_idxs, kIdxs_str, ↓execI_len, ↓rdB_ld, kRd_ptr, kRd_tptr, kRd_tup, kRd_kif, kOpsW_bs, gt0, st0, gt1, st1, gt2, st2, gt3, st3, gt4, st4, gt5, st5, gt6, st6, gt7, st7, gt8, st8, -kWant_bool, -Int.not_le, -Int.not_lt, -decide_eq_true_eq, -decide_eq_false_iff_not, -List.getD_eq_getElem?_getD, -List.set_cons_succ, -List.set_cons_zero, -Bool.and_eq_true, -Bool.or_eq_true, -Bool.not_eq_eq_eq_not, -Bool.or_eq_false_iff, -Bool.and_eq_false_imp, -Bool.not_eq_true, -Bool.not_eq_false]
end Go.AM.Ytegibclhopenmaa
