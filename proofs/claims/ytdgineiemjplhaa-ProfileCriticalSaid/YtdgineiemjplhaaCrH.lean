/- Sorted and compacted lists: plain facts, no program. -/
import Derived.Test.YtdgineiemjplhaaCrG
set_option linter.unusedVariables false
set_option linter.unusedSimpArgs false
namespace Go.AM.Ytdgineiemjplhaa
open Go Go.AM Go.Lib
theorem comp_up (d : Array Int) (hd : ∀ i j, i ≤ j → j < d.size → d[i]! ≤ d[j]!) : ∀ m, m ≤ d.size → (compactUpTo d m).Pairwise (· < ·) ∧ (∀ x ∈ compactUpTo d m, m ≠ 0 ∧ x ≤ d[m - 1]!) ∧ ∀ x, x ∈ compactUpTo d m ↔ ∃ j, j < m ∧ d[j]! = x
  | 0, _ => by simp [compactUpTo]
  | m + 1, hm => by
    obtain ⟨h1, h2, h3⟩ := comp_up d hd m (by omega)
    rw [compactUpTo_succ]
    by_cases hk : keeps d m = true
    · rw [if_pos hk]
      simp only [keeps, decide_eq_true_eq] at hk
      refine ⟨?_, fun x hx => ⟨by omega, ?_⟩, fun x => ?_⟩
      · rw [List.pairwise_append]
        refine ⟨h1, by simp, fun x hx y hy => ?_⟩
        obtain rfl := List.mem_singleton.1 hy
        obtain ⟨g1, g2⟩ := h2 x hx
        have g3 := hd (m - 1) m (by omega) (by omega)
        rcases hk with hk | hk
        · exact absurd hk g1
        · omega
      · rw [Nat.add_sub_cancel]
        rcases List.mem_append.1 hx with hx | hx
        · obtain ⟨g1, g2⟩ := h2 x hx
          exact Int.le_trans g2 (hd (m - 1) m (by omega) (by omega))
        · rw [List.mem_singleton.1 hx]; exact Int.le_refl _
      · rw [List.mem_append, h3, List.mem_singleton]
        constructor
        · rintro (⟨j, g1, g2⟩ | rfl)
          · exact ⟨j, by omega, g2⟩
          · exact ⟨m, by omega, rfl⟩
        · rintro ⟨j, g1, g2⟩
          by_cases hj : j = m
          · subst hj; exact .inr g2.symm
          · exact .inl ⟨j, by omega, g2⟩
    · rw [if_neg hk, List.append_nil]
      simp only [keeps, decide_eq_true_eq, not_or, Decidable.not_not] at hk
      obtain ⟨k1, k2⟩ := hk
      refine ⟨h1, fun x hx => ⟨by omega, ?_⟩, fun x => ?_⟩
      · rw [Nat.add_sub_cancel, k2]
        exact (h2 x hx).2
      · rw [h3]
        constructor
        · rintro ⟨j, g1, g2⟩
          exact ⟨j, by omega, g2⟩
        · rintro ⟨j, g1, g2⟩
          by_cases hj : j = m
          · subst hj; exact ⟨j - 1, by omega, by rw [← k2]; exact g2⟩
          · exact ⟨j, by omega, g2⟩
theorem leZ_trans : ∀ a b c : Int, leZ a b = true → leZ b c = true → leZ a c = true := fun a b c h1 h2 => by simp only [leZ, decide_eq_true_eq] at *; omega
theorem leZ_total : ∀ a b : Int, (leZ a b || leZ b a) = true := fun a b => by simp only [leZ, Bool.or_eq_true, decide_eq_true_eq]; omega
theorem compact_sorted {L R : List Int} (hR : R.Pairwise (· < ·)) (hm : ∀ x, x ∈ R ↔ x ∈ L) : compact (L.mergeSort leZ) = R := by
  have hs := List.pairwise_mergeSort leZ_trans leZ_total L
  have hd : ∀ i j, i ≤ j → j < (L.mergeSort leZ).toArray.size → ((L.mergeSort leZ).toArray)[i]! ≤ ((L.mergeSort leZ).toArray)[j]! := by
    intro i j hij hj
    have hj' : j < (L.mergeSort leZ).length := by simpa using hj
    rw [getElem!_pos _ i (by simp at hj ⊢; omega), getElem!_pos _ j hj]
    by_cases e : i = j
    · subst e; exact Int.le_refl _
    · have := List.pairwise_iff_getElem.1 hs i j (by omega) hj' (by omega)
      simpa [leZ] using this
  obtain ⟨h1, -, h3⟩ := comp_up _ hd (L.mergeSort leZ).length (by simp)
  unfold compact
  have hnd : ∀ {l : List Int}, l.Pairwise (· < ·) → l.Nodup := fun h => h.imp fun h e => by omega
  refine List.Perm.eq_of_pairwise (le := fun a b => a < b) (fun a b _ _ h1 h2 => by omega) h1 hR ((List.perm_ext_iff_of_nodup (hnd h1) (hnd hR)).2 fun x => ?_)
  rw [h3, hm]
  constructor
  · rintro ⟨j, g1, g2⟩
    rw [getElem!_pos _ j (by simpa using g1)] at g2
    rw [← g2]
    have : (L.mergeSort leZ)[j] ∈ L := List.mem_mergeSort.1 (List.getElem_mem g1)
    simpa using this
  · intro hx
    obtain ⟨j, g1, g2⟩ := List.getElem_of_mem (List.mem_mergeSort.2 hx : x ∈ L.mergeSort leZ)
    refine ⟨j, g1, ?_⟩
    rw [getElem!_pos _ j (by simpa using g1)]
    simpa using g2
/-! The instructions that count. -/
def hasFr (f : Fl) (b : Bd) (i : Nat) : Bool := (List.range b.C.length).any fun k => decide ((cA f.A b.C k).fr = i)
def cnd (f : Fl) (b : Bd) (i : Nat) : Bool := (decide (b.kd = 2) && hasFr f b i) || (decide (b.kd = 3) && decide ((ndAt f.N i).rs = b.rs)) || (decide (b.kd = 4) && mtB b (ndAt f.N i))
def crL (f : Fl) (b : Bd) (n : Nat) : List Int := ((List.range n).filter (cnd f b)).map fun (i : Nat) => (i : Int)
theorem crL_succ (f : Fl) (b : Bd) (n : Nat) : crL f b (n + 1) = crL f b n ++ if cnd f b n then [(n : Int)] else [] := by
  unfold crL
  rw [List.range_succ, List.filter_append, List.map_append]
  cases h : cnd f b n <;> simp [h]
theorem crL_len (f : Fl) (b : Bd) (n : Nat) : (crL f b n).length ≤ n := by
  unfold crL
  rw [List.length_map]
  exact Nat.le_trans (List.length_filter_le _ _) (by simp)
theorem crL_sorted (f : Fl) (b : Bd) (n : Nat) : (crL f b n).Pairwise (· < ·) := by
  unfold crL
  rw [List.pairwise_map]
  exact (List.pairwise_lt_range.filter _).imp fun h => by omega
/-- the sources of the cycle's arcs that are instructions -/
def fsL (f : Fl) (b : Bd) : Nat → List Int
  | 0 => []
  | k + 1 => fsL f b k ++ if (cA f.A b.C k).fr < f.ins then [(cA f.A b.C k).fr] else []
theorem fsL_len (f : Fl) (b : Bd) : ∀ k, (fsL f b k).length ≤ k
  | 0 => by simp [fsL]
  | k + 1 => by
    have := fsL_len f b k
    simp only [fsL, List.length_append]
    split <;> simp <;> omega
theorem fsL_mem (f : Fl) (b : Bd) (x : Int) : ∀ k, x ∈ fsL f b k ↔ ∃ j, j < k ∧ (cA f.A b.C j).fr = x ∧ x < f.ins
  | 0 => by simp [fsL]
  | k + 1 => by
    simp only [fsL, List.mem_append, fsL_mem f b x k]
    constructor
    · rintro (⟨j, h1, h2⟩ | h)
      · exact ⟨j, by omega, h2⟩
      · split at h
        · rename_i h1
          obtain rfl := List.mem_singleton.1 h
          exact ⟨k, by omega, rfl, h1⟩
        · cases h
    · rintro ⟨j, h1, h2, h3⟩
      by_cases hj : j = k
      · subst hj
        rw [if_pos (by omega)]
        exact .inr (by rw [h2]; simp)
      · exact .inl ⟨j, by omega, h2, h3⟩
theorem fsL_comp {f : Fl} {b : Bd} (hk : b.kd = 2) (h0 : ∀ j, j < b.C.length → 0 ≤ (cA f.A b.C j).fr) (n : Nat) (hn : f.ins = n) : compact ((fsL f b b.C.length).mergeSort leZ) = crL f b n := by
  refine compact_sorted (crL_sorted f b n) fun x => ?_
  rw [fsL_mem]
  unfold crL
  simp only [List.mem_map, List.mem_filter, List.mem_range, cnd, hk, hasFr]
  constructor
  · rintro ⟨i, ⟨h1, h2⟩, rfl⟩
    simp at h2
    obtain ⟨j, h3, h4⟩ := h2
    exact ⟨j, h3, h4, by omega⟩
  · rintro ⟨j, h1, h2, h3⟩
    have := h0 j h1
    refine ⟨x.toNat, ⟨by omega, ?_⟩, by omega⟩
    simp
    exact ⟨j, h1, by omega⟩
end Go.AM.Ytdgineiemjplhaa

set_option linter.unusedVariables false
set_option linter.unusedSimpArgs false
namespace Go.AM.Ytdgineiemjplhaa
open Go Go.AM Go.Lib
set_option maxRecDepth 100000
set_option maxHeartbeats 0
attribute [local congr] kif_congr
def bxI (L : List Int) : Blk := ⟨1, L.map ivs, 0, false, true⟩
theorem ivs_ivZ : ivs = ivZ := rfl
theorem bxI_ren (L : List Int) (g : Nat → Option Nat) : (bxI L).ren g = some (bxI L) := rfl
theorem bxI_box (L : List Int) : (bxI L).box = false := rfl
theorem ora13 (k : Nat) (L : List Int) (h : L.length ≤ 1000) : callF tbl pu (k + 1) 13 [.sl 1 0 L.length 0 L.length] [bxI L] = some (.tup [], [bxI (L.mergeSort leZ)], true) := by
  refine (callF_ora rfl).trans ?_
  show oraSC 13 14 13 _ _ = _
  have hi : intsE (L.map ivZ) = some L := intsE_map L
  have hl : L.length ≤ 1000000 := by omega
  simp [oraSC, bxI, hi, hl, blkZ, ivs_ivZ]
theorem ora14 (k : Nat) (L : List Int) (h : L.length ≤ 1000) : callF tbl pu (k + 1) 14 [.sl 1 0 L.length 0 L.length] [bxI L] = some (.sl 1 0 L.length 0 (compact L).length, [bxI (compZ L)], true) := by
  refine (callF_ora rfl).trans ?_
  show oraSC 13 14 14 _ _ = _
  have hi : intsE (L.map ivZ) = some L := intsE_map L
  have hl : L.length ≤ 1000000 := by omega
  simp [oraSC, bxI, hi, hl, blkZ, ivs_ivZ]
theorem call13 (k : Nat) (L : List Int) (h : L.length ≤ 1000) (B : Blk) : callV (callF tbl pu (k + 1)) pu [B, bxI L] 13 [.sl 1 1 L.length 0 L.length] = some (.tup [], .upd [B, bxI (L.mergeSort leZ)] [1]) := by
  rw [callV_ref (by decide)]
  have e : reach [B, bxI L] 50 [] (refsL [.sl 1 1 L.length 0 L.length]) = [1] := by
    simp [refsL, V.refs, reach, bxI_box]
  rw [e]
  have p0 : place [1] 1 = some 0 := rfl
  have q := ora13 k L h
  simp [renL, V.ren, p0, -place_cons, pickH, bxI_ren, q, backG, renH, putBack]
theorem call14 (k : Nat) (L : List Int) (n : Nat) (hn : L.length = n) (h : L.length ≤ 1000) (B : Blk) : callV (callF tbl pu (k + 1)) pu [B, bxI L] 14 [.sl 1 1 n 0 n] = some (.sl 1 1 n 0 (compact L).length, .upd [B, bxI (compZ L)] [1]) := by
  subst hn
  rw [callV_ref (by decide)]
  have e : reach [B, bxI L] 50 [] (refsL [.sl 1 1 L.length 0 L.length]) = [1] := by
    simp [refsL, V.refs, reach, bxI_box]
  rw [e]
  have p0 : place [1] 1 = some 0 := rfl
  have q := ora14 k L h
  simp [renL, V.ren, p0, -place_cons, pickH, bxI_ren, q, backG, renH, putBack]
theorem call13n (k : Nat) (H : Heap) : callV (callF tbl pu (k + 1)) pu H 13 [.nils] = some (.tup [], .new []) := by
  rw [callV_ref (by decide)]
  have e : reach H 50 [] (refsL [.nils]) = [] := by simp [refsL, V.refs, reach]
  rw [e]
  have q : callF tbl pu (k + 1) 13 [.nils] [] = some (.tup [], [], false) := callF_ora rfl
  simp [renL, V.ren, pickH, q, renH]
theorem call14n (k : Nat) (H : Heap) : callV (callF tbl pu (k + 1)) pu H 14 [.nils] = some (.nils, .new []) := by
  rw [callV_ref (by decide)]
  have e : reach H 50 [] (refsL [.nils]) = [] := by simp [refsL, V.refs, reach]
  rw [e]
  have q : callF tbl pu (k + 1) 14 [.nils] [] = some (.nils, [], false) := callF_ora rfl
  simp [renL, V.ren, pickH, q, renH]
/-! The first loop. -/
def T6e (vc : V) (m k : Nat) (H : Heap) (d : Bool) : St := ⟨[.undef, .undef, .ptr 0 1 0 0, .undef, .undef, .nils, .undef, .undef, .undef, .undef, .undef, .undef, .undef, .undef, .undef, .undef, .undef, .undef, .undef, vc, .int .i64 m, .int .i64 k, .undef, .undef, .undef, .undef, .undef, .undef, .undef, .undef, .undef, .undef, .undef, .undef, .undef, .undef, .undef, .undef, .undef, .undef, .undef, .undef, .undef, .undef, .undef, .undef, .undef, .undef, .undef, .undef, .undef, .undef, .undef, .undef, .undef, .undef, .undef, .undef, .undef, .undef, .undef, .undef, .undef, .undef, .undef, .undef, .undef, .undef, .undef, .undef, .undef, .undef, .undef, .undef, .undef, .undef, .undef, .undef, .undef, .undef, .undef, .undef, .undef, .undef, .undef, .undef, .undef], H, d⟩
def T6n (vc : V) (l m k : Nat) (H : Heap) (d : Bool) : St := ⟨[.undef, .undef, .ptr 0 1 0 0, .undef, .undef, .sl 1 1 l 0 l, .undef, .undef, .undef, .undef, .undef, .undef, .undef, .undef, .undef, .undef, .undef, .undef, .undef, vc, .int .i64 m, .int .i64 k, .undef, .undef, .undef, .undef, .undef, .undef, .undef, .undef, .undef, .undef, .undef, .undef, .undef, .undef, .undef, .undef, .undef, .undef, .undef, .undef, .undef, .undef, .undef, .undef, .undef, .undef, .undef, .undef, .undef, .undef, .undef, .undef, .undef, .undef, .undef, .undef, .undef, .undef, .undef, .undef, .undef, .undef, .undef, .undef, .undef, .undef, .undef, .undef, .undef, .undef, .undef, .undef, .undef, .undef, .undef, .undef, .undef, .undef, .undef, .undef, .undef, .undef, .undef, .undef, .undef], H, d⟩
def J6 (B : Blk) (vc : V) (m : Nat) (L : List Int) (k : Nat) (t : St) : Prop := ∃ d, (L = [] ∧ t = T6e vc m k [B] d) ∨ (0 < L.length ∧ t = T6n vc L.length m k [B, bxI L] d)
def bF (f : Fl) : Blk := ⟨6, [[.int .i64 f.ins, .int .i64 f.par, .bool f.loop, f.va, f.vr, f.vn]], 0, true, f.va.flat && (f.vr.flat && f.vn.flat)⟩
theorem g6a (call : CallT) (K : Nat) (f : Fl) (b : Bd) (h : Env f b) (hin : ∀ k, k < b.C.length → inr f.A b.C k) (k : Nat) (hk : k < b.C.length) (t : St) (ht : J6 (bF f) b.vc b.C.length (fsL f b k) k t) :
    Go1 (tidy [2, 5, 19, 20, 21] 0) (J6 (bF f) b.vc b.C.length (fsL f b (k + 1)) (k + 1)) (fun _ => False) (execC call pu 0 K c6_b1 t) := by
  obtain ⟨d, ht⟩ := ht
  have ga := Sl.ls h.hf.a
  have gr := Sl.ls h.hf.r
  have gn := Sl.ls h.hf.n
  have gc := Sl.ls h.hb
  have hla := lenA h.hf
  have hlc := lenC h.hb
  have hC := h.hC
  have h1 : IntKind.i64.wrap ((k : Int) + 1) = (k : Int) + 1 := wrap64 (by omega) (by omega)
  have h3 : decide (b.C.length ≤ k) = false := by simp; omega
  have h4 : decide (k < b.C.length) = true := by simp; omega
  have hr1 := rowC h.hb hk
  have hik := hin k hk
  have e1 : decide (cyAt b.C k < 0) = false := by have := hik.1; simp; omega
  have e2 : decide ((f.A.length : Int) ≤ cyAt b.C k) = false := by have := hik.2; simp; omega
  have hra := rowA h.hf (i := (cyAt b.C k).toNat) (by have := hik.1; have := hik.2; omega)
  have hfl := fsL_len f b k
  have hF : fsL f b (k + 1) = fsL f b k ++ if (arcAt f.A (cyAt b.C k).toNat).fr < f.ins then [(arcAt f.A (cyAt b.C k).toNat).fr] else [] := rfl
  rw [hF]
  generalize fsL f b k = L at *
  generalize arcAt f.A (cyAt b.C k).toNat = x at *
  by_cases a1 : x.fr < f.ins
  · have d1 : decide (x.fr < f.ins) = true := by simp [a1]
    rw [if_pos a1]
    rcases ht with ⟨rfl, rfl⟩ | ⟨hl0, rfl⟩
    · have fin : ∀ d, J6 (bF f) b.vc b.C.length ([] ++ [x.fr]) (k + 1) (T6n b.vc 1 b.C.length (k + 1) [bF f, bxI [x.fr]] d) := fun d => ⟨d, .inr ⟨by simp, rfl⟩⟩
      generalize J6 (bF f) b.vc b.C.length ([] ++ [x.fr]) (k + 1) = II at fin ⊢
      simp only [T6n, bF, bxI, ivs, List.map_cons, List.map_nil, Int.natCast_add, Int.natCast_one] at fin
      unfold c6_b1 T6e bF
      simp (contextual := true) (maxSteps := 10000000) (implicitDefEqProofs := false) [hla, hlc, h1, h3, h4, hr1, e1, e2, hra, d1, ga.all, gr.all, gn.all, gc.all, kIadr_LS ga, kIadr_LS gc, appV, elemsOf, roomB, freezeH, fin, Go1_kif, Go1_ret, Go1_normal, Go1_exit, RtF_ret, ex_eq, ex_eq2, tidy, kCond_kc, kc_kif, ↓kif_tr, ↓kif_fl, kif_tr, kif_fl, kif_same, ↓kif_not, ↓kif_or, ↓kifg_tr, ↓kifg_fl, ↓kifg_not, ↓kifg_or, ↓kifg_and, kifg_kif, kifB_t, kifB_f, kifB_ft, kifB_tt, kif_bool, kif_int, mergeL, mergeV, mergeS, mergeRs, kSeq_kif, kBlk_kif, kPost_kif, kNext_kif, kFin_kif, kReg_kif, kOps_kif, kO_kif, kG_kif, kDrw_kif, kW_kif, kOpsW_kif, kRet_kif, map_kif, bind_kif, kWant_t, kWant_f, kWant_kif, ↓execI_pick, kPick_bool, kPick_kif, ↓execI_iadr, kIadr_sl, ↓execI_idxs, kIdxs_str, ↓execI_len, ↓rdB_ld, kRd_ptr, kRd_tptr, kRd_tup, kRd_kif, kOpsW_bs, gt0, st0, gt1, st1, gt2, st2, gt3, st3, gt4, st4, gt5, st5, gt6, st6, gt7, st7, gt8, st8, -kWant_bool, -Int.not_le, -Int.not_lt, -decide_eq_true_eq, -decide_eq_false_iff_not, -List.getD_eq_getElem?_getD, -List.set_cons_succ, -List.set_cons_zero, -Bool.and_eq_true, -Bool.or_eq_true, -Bool.not_eq_eq_eq_not, -Bool.or_eq_false_iff, -Bool.and_eq_false_imp, -Bool.not_eq_true, -Bool.not_eq_false]
    · have r1 : (L.length + 1) * 8 ≤ 140737488351232 := by omega
      have r2 : L.length + 1 ≤ 140737488351232 := by omega
      have lg : ¬ L.length + 1 ≤ L.length := by omega
      have hl : (L.map ivs).length = L.length := by simp
      have tak : (L.map ivs).take L.length = L.map ivs := List.take_of_length_le (by omega)
      have dr : (L.map ivs).drop (L.length + 1) = [] := List.drop_eq_nil_of_le (by omega)
      have fin : ∀ d, J6 (bF f) b.vc b.C.length (L ++ [x.fr]) (k + 1) (T6n b.vc (L.length + 1) b.C.length (k + 1) [bF f, bxI (L ++ [x.fr])] d) := fun d => ⟨d, .inr ⟨by simp, by simp⟩⟩
      generalize J6 (bF f) b.vc b.C.length (L ++ [x.fr]) (k + 1) = II at fin ⊢
      simp only [T6n, bF, bxI, List.map_append, List.map_cons, List.map_nil, Int.natCast_add, Int.natCast_one] at fin
      unfold c6_b1 T6n bF bxI
      generalize L.map ivs = os at *
      simp only [ivs] at fin
      simp (contextual := true) (maxSteps := 10000000) (implicitDefEqProofs := false) [hla, hlc, h1, h3, h4, hr1, e1, e2, hra, d1, hl, r1, r2, lg, tak, dr, ga.all, gr.all, gn.all, gc.all, kIadr_LS ga, kIadr_LS gc, appV, elemsOf, roomB, freezeH, fin, Go1_kif, Go1_ret, Go1_normal, Go1_exit, RtF_ret, ex_eq, ex_eq2, tidy, kCond_kc, kc_kif, ↓kif_tr, ↓kif_fl, kif_tr, kif_fl, kif_same, ↓kif_not, ↓kif_or, ↓kifg_tr, ↓kifg_fl, ↓kifg_not, ↓kifg_or, ↓kifg_and, kifg_kif, kifB_t, kifB_f, kifB_ft, kifB_tt, kif_bool, kif_int, mergeL, mergeV, mergeS, mergeRs, kSeq_kif, kBlk_kif, kPost_kif, kNext_kif, kFin_kif, kReg_kif, kOps_kif, kO_kif, kG_kif, kDrw_kif, kW_kif, kOpsW_kif, kRet_kif, map_kif, bind_kif, kWant_t, kWant_f, kWant_kif, ↓execI_pick, kPick_bool, kPick_kif, ↓execI_iadr, kIadr_sl, ↓execI_idxs, kIdxs_str, ↓execI_len, ↓rdB_ld, kRd_ptr, kRd_tptr, kRd_tup, kRd_kif, kOpsW_bs, gt0, st0, gt1, st1, gt2, st2, gt3, st3, gt4, st4, gt5, st5, gt6, st6, gt7, st7, gt8, st8, -kWant_bool, -Int.not_le, -Int.not_lt, -decide_eq_true_eq, -decide_eq_false_iff_not, -List.getD_eq_getElem?_getD, -List.set_cons_succ, -List.set_cons_zero, -Bool.and_eq_true, -Bool.or_eq_true, -Bool.not_eq_eq_eq_not, -Bool.or_eq_false_iff, -Bool.and_eq_false_imp, -Bool.not_eq_true, -Bool.not_eq_false]
  · have d1 : decide (x.fr < f.ins) = false := by simp; omega
    rw [if_neg a1, List.append_nil]
    rcases ht with ⟨hl0, rfl⟩ | ⟨hl0, rfl⟩
    · have fin : ∀ d, J6 (bF f) b.vc b.C.length L (k + 1) (T6e b.vc b.C.length (k + 1) [bF f] d) := fun d => ⟨d, .inl ⟨hl0, rfl⟩⟩
      generalize J6 (bF f) b.vc b.C.length L (k + 1) = II at fin ⊢
      simp only [T6e, bF, Int.natCast_add, Int.natCast_one] at fin
      unfold c6_b1 T6e bF
      simp (contextual := true) (maxSteps := 10000000) (implicitDefEqProofs := false) [hla, hlc, h1, h3, h4, hr1, e1, e2, hra, d1, ga.all, gr.all, gn.all, gc.all, kIadr_LS ga, kIadr_LS gc, freezeH, fin, Go1_kif, Go1_ret, Go1_normal, Go1_exit, RtF_ret, ex_eq, ex_eq2, tidy, kCond_kc, kc_kif, ↓kif_tr, ↓kif_fl, kif_tr, kif_fl, kif_same, ↓kif_not, ↓kif_or, ↓kifg_tr, ↓kifg_fl, ↓kifg_not, ↓kifg_or, ↓kifg_and, kifg_kif, kifB_t, kifB_f, kifB_ft, kifB_tt, kif_bool, kif_int, mergeL, mergeV, mergeS, mergeRs, kSeq_kif, kBlk_kif, kPost_kif, kNext_kif, kFin_kif, kReg_kif, kOps_kif, kO_kif, kG_kif, kDrw_kif, kW_kif, kOpsW_kif, kRet_kif, map_kif, bind_kif, kWant_t, kWant_f, kWant_kif, ↓execI_pick, kPick_bool, kPick_kif, ↓execI_iadr, kIadr_sl, ↓execI_idxs, kIdxs_str, ↓execI_len, ↓rdB_ld, kRd_ptr, kRd_tptr, kRd_tup, kRd_kif, kOpsW_bs, gt0, st0, gt1, st1, gt2, st2, gt3, st3, gt4, st4, gt5, st5, gt6, st6, gt7, st7, gt8, st8, -kWant_bool, -Int.not_le, -Int.not_lt, -decide_eq_true_eq, -decide_eq_false_iff_not, -List.getD_eq_getElem?_getD, -List.set_cons_succ, -List.set_cons_zero, -Bool.and_eq_true, -Bool.or_eq_true, -Bool.not_eq_eq_eq_not, -Bool.or_eq_false_iff, -Bool.and_eq_false_imp, -Bool.not_eq_true, -Bool.not_eq_false]
    · have fin : ∀ d, J6 (bF f) b.vc b.C.length L (k + 1) (T6n b.vc L.length b.C.length (k + 1) [bF f, bxI L] d) := fun d => ⟨d, .inr ⟨hl0, rfl⟩⟩
      generalize J6 (bF f) b.vc b.C.length L (k + 1) = II at fin ⊢
      simp only [T6n, bF, Int.natCast_add, Int.natCast_one] at fin
      unfold c6_b1 T6n bF
      simp (contextual := true) (maxSteps := 10000000) (implicitDefEqProofs := false) [hla, hlc, h1, h3, h4, hr1, e1, e2, hra, d1, ga.all, gr.all, gn.all, gc.all, kIadr_LS ga, kIadr_LS gc, bxI_ren, bxI_box, freezeH, fin, Go1_kif, Go1_ret, Go1_normal, Go1_exit, RtF_ret, ex_eq, ex_eq2, tidy, kCond_kc, kc_kif, ↓kif_tr, ↓kif_fl, kif_tr, kif_fl, kif_same, ↓kif_not, ↓kif_or, ↓kifg_tr, ↓kifg_fl, ↓kifg_not, ↓kifg_or, ↓kifg_and, kifg_kif, kifB_t, kifB_f, kifB_ft, kifB_tt, kif_bool, kif_int, mergeL, mergeV, mergeS, mergeRs, kSeq_kif, kBlk_kif, kPost_kif, kNext_kif, kFin_kif, kReg_kif, kOps_kif, kO_kif, kG_kif, kDrw_kif, kW_kif, kOpsW_kif, kRet_kif, map_kif, bind_kif, kWant_t, kWant_f, kWant_kif, ↓execI_pick, kPick_bool, kPick_kif, ↓execI_iadr, kIadr_sl, ↓execI_idxs, kIdxs_str, ↓execI_len, ↓rdB_ld, kRd_ptr, kRd_tptr, kRd_tup, kRd_kif, kOpsW_bs, gt0, st0, gt1, st1, gt2, st2, gt3, st3, gt4, st4, gt5, st5, gt6, st6, gt7, st7, gt8, st8, -kWant_bool, -Int.not_le, -Int.not_lt, -decide_eq_true_eq, -decide_eq_false_iff_not, -List.getD_eq_getElem?_getD, -List.set_cons_succ, -List.set_cons_zero, -Bool.and_eq_true, -Bool.or_eq_true, -Bool.not_eq_eq_eq_not, -Bool.or_eq_false_iff, -Bool.and_eq_false_imp, -Bool.not_eq_true, -Bool.not_eq_false]
theorem x6a (call : CallT) (K : Nat) (B : Blk) (vc : V) (m : Nat) (L : List Int) (t : St) (ht : J6 B vc m L m t) : Nn (execC call pu 0 K c6_b1 t) := by
  obtain ⟨d, ht⟩ := ht
  rcases ht with ⟨hs, rfl⟩ | ⟨hs, rfl⟩
  · unfold c6_b1 T6e
    simp (contextual := true) (maxSteps := 10000000) (implicitDefEqProofs := false) [Nn_exit, kCond_kc, kc_kif, ↓kif_tr, ↓kif_fl, kif_tr, kif_fl, kif_same, ↓kif_not, ↓kif_or, ↓kifg_tr, ↓kifg_fl, ↓kifg_not, ↓kifg_or, ↓kifg_and, kifg_kif, kifB_t, kifB_f, kifB_ft, kifB_tt, kif_bool, kif_int, mergeL, mergeV, mergeS, mergeRs, kSeq_kif, kBlk_kif, kPost_kif, kNext_kif, kFin_kif, kReg_kif, kOps_kif, kO_kif, kG_kif, kDrw_kif, kW_kif, kOpsW_kif, kRet_kif, map_kif, bind_kif, kWant_t, kWant_f, kWant_kif, ↓execI_pick, kPick_bool, kPick_kif, ↓execI_iadr, kIadr_sl, ↓execI_idxs, kIdxs_str, ↓execI_len, ↓rdB_ld, kRd_ptr, kRd_tptr, kRd_tup, kRd_kif, kOpsW_bs, gt0, st0, gt1, st1, gt2, st2, gt3, st3, gt4, st4, gt5, st5, gt6, st6, gt7, st7, gt8, st8, -kWant_bool, -Int.not_le, -Int.not_lt, -decide_eq_true_eq, -decide_eq_false_iff_not, -List.getD_eq_getElem?_getD, -List.set_cons_succ, -List.set_cons_zero, -Bool.and_eq_true, -Bool.or_eq_true, -Bool.not_eq_eq_eq_not, -Bool.or_eq_false_iff, -Bool.and_eq_false_imp, -Bool.not_eq_true, -Bool.not_eq_false]
  · unfold c6_b1 T6n
    simp (contextual := true) (maxSteps := 10000000) (implicitDefEqProofs := false) [Nn_exit, kCond_kc, kc_kif, ↓kif_tr, ↓kif_fl, kif_tr, kif_fl, kif_same, ↓kif_not, ↓kif_or, ↓kifg_tr, ↓kifg_fl, ↓kifg_not, ↓kifg_or, ↓kifg_and, kifg_kif, kifB_t, kifB_f, kifB_ft, kifB_tt, kif_bool, kif_int, mergeL, mergeV, mergeS, mergeRs, kSeq_kif, kBlk_kif, kPost_kif, kNext_kif, kFin_kif, kReg_kif, kOps_kif, kO_kif, kG_kif, kDrw_kif, kW_kif, kOpsW_kif, kRet_kif, map_kif, bind_kif, kWant_t, kWant_f, kWant_kif, ↓execI_pick, kPick_bool, kPick_kif, ↓execI_iadr, kIadr_sl, ↓execI_idxs, kIdxs_str, ↓execI_len, ↓rdB_ld, kRd_ptr, kRd_tptr, kRd_tup, kRd_kif, kOpsW_bs, gt0, st0, gt1, st1, gt2, st2, gt3, st3, gt4, st4, gt5, st5, gt6, st6, gt7, st7, gt8, st8, -kWant_bool, -Int.not_le, -Int.not_lt, -decide_eq_true_eq, -decide_eq_false_iff_not, -List.getD_eq_getElem?_getD, -List.set_cons_succ, -List.set_cons_zero, -Bool.and_eq_true, -Bool.or_eq_true, -Bool.not_eq_eq_eq_not, -Bool.or_eq_false_iff, -Bool.and_eq_false_imp, -Bool.not_eq_true, -Bool.not_eq_false]
end Go.AM.Ytdgineiemjplhaa
