/- A legal schedule uses no resource more than possible. -/
import Derived.Test.YtllnlcifddhapaaUsS
import Derived.Test.YtllnlcifddhapaaAmUsP
set_option linter.unusedVariables false
set_option linter.unusedSimpArgs false
namespace Go.AM.Ytllnlcifddhapaa
open Go Go.AM
set_option maxRecDepth 100000
set_option maxHeartbeats 0
def NoClF (f : Fl) (s : Sc) (i q : Nat) : Prop := NoCl s.ii (ndAt f.N i) (ndAt f.N q) (s.S.getD i 0) (s.S.getD q 0) (s.U.getD i 0) (s.U.getD q 0) (i = q)
theorem occE_mod {ii d : Int} (h : 0 < ii) : occE ii d = d % ii := by
  unfold occE
  rw [if_pos h]
  have h1 := Int.mul_tdiv_add_tmod d ii
  have h2 := Int.tmod_lt_of_pos d h
  have h3 := Int.lt_tmod_of_pos d h
  generalize hr : d.tmod ii = r at *
  generalize d.tdiv ii = t at *
  rw [← h1]
  by_cases hn : r < 0
  · rw [if_pos hn, show ii * t + r = (r + ii) + ii * (t - 1) by rw [Int.mul_sub]; omega, Int.add_mul_emod_self_left, Int.emod_eq_of_lt (by omega) (by omega)]
  · rw [if_neg hn, show ii * t + r = r + ii * t by omega, Int.add_mul_emod_self_left, Int.emod_eq_of_lt (by omega) (by omega)]
def selN (N : List Nd) (r : Int) (j : Nat) : List Nat := (List.range j).filter fun i => decide ((ndAt N i).rs = r)
theorem sum_sel (N : List Nd) (r : Int) (hb : ∀ x ∈ N, 0 ≤ x.bu) : ∀ j, j ≤ N.length → sumN N r j = (((selN N r j).map fun i => (ndAt N i).bu.toNat).sum : Nat)
  | 0, _ => by simp [sumN, selN]
  | j + 1, hj => by
    have ih := sum_sel N r hb j (by omega)
    have hx : N[j]? = some (ndAt N j) := by simp [ndAt, show j < N.length by omega]
    have hbj := hb _ (List.mem_iff_getElem?.mpr ⟨j, hx⟩)
    simp only [sumN, hx, ih, selN, List.range_succ, List.filter_append, List.map_append, List.sum_append]
    by_cases e : (ndAt N j).rs = r
    · simp [e]; omega
    · simp [e]
theorem sel_mem {N : List Nd} {r : Int} {i : Nat} (h : i ∈ selN N r N.length) : i < N.length ∧ (ndAt N i).rs = r := by
  simp only [selN, List.mem_filter, List.mem_range, decide_eq_true_eq] at h
  exact h
theorem use_bound {f : Fl} {s : Sc} (hv : validP f) (hfit : fitsP f s) (hlate : ∀ a ∈ f.A, okA f s a) (hcl : ∀ i q, i ≤ q → q < f.N.length → NoClF f s i q) (r : Nat) (hr : r < f.R.length) :
    sumN f.N r f.N.length ≤ (rsAt f.R r).ct * lenI f.loop s.ii s.dep := by
  have hbu := valid_bu hv
  have hct := valid_ct hv _ (rsAt_mem hr)
  have hl := fits_len hfit
  have nN : (f.N.length : Int) = f.ins := hv.1.2.2
  have nU := hfit.nU
  have nS := hfit.nS
  rw [sum_sel f.N r (fun x hx => (hbu x hx).1) f.N.length (Nat.le_refl _)]
  have hst : ∀ i, i < f.N.length → 0 ≤ s.S.getD i 0 ∧ s.S.getD i 0 ≤ 4096 := by
    intro i hi
    have hi2 : i < s.S.length := by omega
    have e : s.S.getD i 0 = s.S[i] := by simp [List.getD, hi2]
    rw [e]
    exact btw_iff.mp (hfit.S _ (List.getElem_mem hi2))
  have hx : ∀ i, i < f.N.length → ndAt f.N i ∈ f.N := by
    intro i hi
    have : ndAt f.N i = f.N[i] := by simp [ndAt, hi]
    rw [this]
    exact List.getElem_mem hi
  have hun : ∀ i, i < f.N.length → (ndAt f.N i).rs = r → 0 ≤ s.U.getD i 0 ∧ s.U.getD i 0 ≤ (rsAt f.R r).ct - 1 := by
    intro i hi he
    have h1 := (hfit.U i (by omega)).2 (by omega)
    rw [he] at h1
    have e : f.R.getD (r : Int).toNat ⟨0, 0, 0, 0⟩ = rsAt f.R r := by simp [List.getD, rsAt]
    rw [e] at h1
    exact btw_iff.mp h1
  have hself : ∀ i, i < f.N.length → (ndAt f.N i).rs = r → ¬ (0 < s.ii ∧ s.ii < (ndAt f.N i).bu) := by
    intro i hi he
    rcases hcl i i (Nat.le_refl _) hi with h | h | h | h | h
    · omega
    · exact absurd rfl h
    · exact absurd rfl h
    · exact h.2
    · exact absurd rfl h.1
  have hpair : ∀ i k, i < f.N.length → k < f.N.length → (ndAt f.N i).rs = r → (ndAt f.N k).rs = r → i ≠ k → s.U.getD i 0 = s.U.getD k 0 → ∀ c, firstI s.ii (s.S.getD i 0) (s.S.getD k 0) ≤ c → c ≤ lastI s.ii (s.S.getD i 0) (s.S.getD k 0) →
      ¬ (occB s.ii (s.S.getD i 0) (ndAt f.N i).bu c = true ∧ occB s.ii (s.S.getD k 0) (ndAt f.N k).bu c = true) := by
    have one : ∀ i k, i < k → k < f.N.length → (ndAt f.N i).rs = r → (ndAt f.N k).rs = r → s.U.getD i 0 = s.U.getD k 0 → ∀ c, firstI s.ii (s.S.getD i 0) (s.S.getD k 0) ≤ c → c ≤ lastI s.ii (s.S.getD i 0) (s.S.getD k 0) →
      ¬ (occB s.ii (s.S.getD i 0) (ndAt f.N i).bu c = true ∧ occB s.ii (s.S.getD k 0) (ndAt f.N k).bu c = true) := by
      intro i k hik hk h1 h2 hu
      rcases hcl i k (by omega) hk with h | h | h | h | h
      · omega
      · exact absurd (h1.trans h2.symm) h
      · exact absurd hu h
      · omega
      · exact h.2
    have sym1 : ∀ a b, firstI s.ii a b = firstI s.ii b a := by intro a b; unfold firstI imin; split; rfl; (repeat split) <;> omega
    have sym2 : ∀ a b, lastI s.ii a b = lastI s.ii b a := by intro a b; unfold lastI imax; split; rfl; (repeat split) <;> omega
    intro i k hi hk h1 h2 hne hu c hc1 hc2 hc
    rcases Nat.lt_or_gt_of_ne hne with h | h
    · exact one i k h hk h1 h2 hu c hc1 hc2 hc
    · exact one k i h hi h2 h1 hu.symm c (by rw [sym1]; exact hc1) (by rw [sym2]; exact hc2) ⟨hc.2, hc.1⟩
  have key : ((selN f.N r f.N.length).map fun i => (ndAt f.N i).bu.toNat).sum ≤ (rsAt f.R r).ct.toNat * (lenI f.loop s.ii s.dep).toNat := by
    have hnd : (selN f.N r f.N.length).Nodup := List.nodup_range.filter _
    have hloop := hfit.lo
    cases hL : f.loop with
    | true =>
      rw [hL] at hloop
      have hii : 0 < s.ii := by simpa using hloop
      have hii2 := btw_iff.mp hfit.ii
      have hlen : lenI true s.ii s.dep = s.ii := rfl
      rw [hlen]
      obtain ⟨n, hn⟩ : ∃ n : Nat, s.ii = n := ⟨s.ii.toNat, by omega⟩
      have hn0 : 0 < n := by omega
      rw [hn, Int.toNat_natCast]
      have hocc : ∀ i, i < f.N.length → ∀ c : Nat, occB s.ii (s.S.getD i 0) (ndAt f.N i).bu c = decide ((c + ((-(s.S.getD i 0)) % (n : Int)).toNat) % n < (ndAt f.N i).bu.toNat) := by
        intro i hi c
        have hb := hbu _ (hx i hi)
        have e1 : occE s.ii ((c : Int) - s.S.getD i 0) = (((c + ((-(s.S.getD i 0)) % (n : Int)).toNat) % n : Nat) : Int) := by
          rw [occE_mod hii, hn]
          have ht : (((-(s.S.getD i 0)) % (n : Int)).toNat : Int) = (-(s.S.getD i 0)) % (n : Int) := Int.toNat_of_nonneg (Int.emod_nonneg _ (by omega))
          rw [Int.natCast_emod, Int.natCast_add, ht, Int.add_emod, Int.emod_emod_of_dvd _ (Int.dvd_refl _), ← Int.add_emod, Int.sub_eq_add_neg]
        unfold occB
        rw [e1]
        by_cases h : (c + ((-(s.S.getD i 0)) % (n : Int)).toNat) % n < (ndAt f.N i).bu.toNat
        · simp only [h, decide_true, Bool.and_eq_true, decide_eq_true_eq]; omega
        · simp only [h, decide_false, Bool.and_eq_false_iff, decide_eq_false_iff_not]; omega
      refine Us.pigeon _ hnd _ (fun i => (s.U.getD i 0).toNat) (fun i c => occB s.ii (s.S.getD i 0) (ndAt f.N i).bu c) _ _ ?_ ?_ ?_
      · intro i hi
        obtain ⟨h1, h2⟩ := sel_mem hi
        have := hun i h1 h2
        omega
      · intro i hi
        obtain ⟨h1, h2⟩ := sel_mem hi
        have h3 := hself i h1 h2
        have hb := hbu _ (hx i h1)
        have ht : ((-(s.S.getD i 0)) % (n : Int)).toNat < n := by
          have := Int.emod_lt_of_pos (-(s.S.getD i 0)) (show (0 : Int) < n by omega)
          have := Int.emod_nonneg (-(s.S.getD i 0)) (show (n : Int) ≠ 0 by omega)
          omega
        have := Us.count_mod (t := ((-(s.S.getD i 0)) % (n : Int)).toNat) (b := (ndAt f.N i).bu.toNat) (n := n) ht (by omega)
        refine Nat.le_trans this (Nat.le_of_eq ?_)
        apply List.countP_congr
        intro c _
        rw [hocc i h1 c]
      · intro i hi k hk hne hu c hc
        obtain ⟨h1, h2⟩ := sel_mem hi
        obtain ⟨h3, h4⟩ := sel_mem hk
        have u1 := hun i h1 h2
        have u2 := hun k h3 h4
        exact hpair i k h1 h3 h2 h4 hne (by omega) c (by unfold firstI; rw [if_pos hii]; omega) (by unfold lastI; rw [if_pos hii]; omega)
    | false =>
      rw [hL] at hloop
      have hii2 := btw_iff.mp hfit.ii
      have hii : s.ii = 0 := by
        have : ¬ 0 < s.ii := by simpa using hloop
        omega
      have hn0 : ¬ 0 < s.ii := by omega
      have hlen : lenI false s.ii s.dep = s.dep := rfl
      rw [hlen]
      have hdep := btw_iff.mp hfit.dep
      have hocc : ∀ i, i < f.N.length → ∀ c : Nat, occB s.ii (s.S.getD i 0) (ndAt f.N i).bu c = (decide ((s.S.getD i 0).toNat ≤ c) && decide (c < (s.S.getD i 0).toNat + (ndAt f.N i).bu.toNat)) := by
        intro i hi c
        have hb := hbu _ (hx i hi)
        have h1 := hst i hi
        unfold occB occE
        rw [if_neg hn0]
        congr 1
        · exact decide_eq_decide.mpr (by omega)
        · exact decide_eq_decide.mpr (by omega)
      have hend : ∀ i, i < f.N.length → s.S.getD i 0 + (ndAt f.N i).bu ≤ s.dep := by
        intro i hi
        have hh1 := btw_iff.mp hv.1.1
        have hh2 := btw_iff.mp hv.1.2.1
        obtain ⟨n, hn⟩ : ∃ n : Nat, f.ins + f.par = n := ⟨(f.ins + f.par).toNat, by omega⟩
        have hF := hv.2.2.2.2
        rw [hn, Int.toNat_natCast] at hF
        obtain ⟨hA, _, h2⟩ := hF
        obtain ⟨a1, a2, a3, a4⟩ := h2 i (by omega)
        have hm : arcAt f.A (n + 1 + i) ∈ f.A := by
          have hlt : n + 1 + i < f.A.length := by omega
          have : arcAt f.A (n + 1 + i) = f.A[n + 1 + i] := by simp [arcAt, hlt]
          rw [this]
          exact List.getElem_mem hlt
        have hok := hlate _ hm
        have a4 := a4 (by omega)
        unfold okA timeI at hok
        rw [a1, a2, a3, hii] at hok
        rw [if_neg (by omega), if_neg (by omega), if_neg (by omega), if_pos (by omega)] at hok
        unfold imax at a4
        simp only [Int.toNat_natCast] at hok
        split at a4 <;> omega
      refine Us.pigeon _ hnd _ (fun i => (s.U.getD i 0).toNat) (fun i c => occB s.ii (s.S.getD i 0) (ndAt f.N i).bu c) _ _ ?_ ?_ ?_
      · intro i hi
        obtain ⟨h1, h2⟩ := sel_mem hi
        have := hun i h1 h2
        omega
      · intro i hi
        obtain ⟨h1, h2⟩ := sel_mem hi
        have hb := hbu _ (hx i h1)
        have h3 := hend i h1
        have h4 := hst i h1
        have := Us.count_run (s := (s.S.getD i 0).toNat) (b := (ndAt f.N i).bu.toNat) (n := s.dep.toNat) (by omega)
        refine Nat.le_trans this (Nat.le_of_eq ?_)
        apply List.countP_congr
        intro c _
        rw [hocc i h1 c]
      · intro i hi k hk hne hu c hc hcc
        obtain ⟨h1, h2⟩ := sel_mem hi
        obtain ⟨h3, h4⟩ := sel_mem hk
        have u1 := hun i h1 h2
        have u2 := hun k h3 h4
        have hb1 := hbu _ (hx i h1)
        have hs1 := hst i h1
        have hc1 := hcc.1
        rw [hocc i h1 c] at hc1
        simp only [Bool.and_eq_true, decide_eq_true_eq] at hc1
        refine hpair i k h1 h3 h2 h4 hne (by omega) c ?_ ?_ hcc
        · unfold firstI imin; rw [if_neg hn0]; split <;> omega
        · unfold lastI imax; rw [if_neg hn0]; split <;> omega
  have h1 : (((rsAt f.R r).ct.toNat * (lenI f.loop s.ii s.dep).toNat : Nat) : Int) = (rsAt f.R r).ct * lenI f.loop s.ii s.dep := by
    rw [Int.natCast_mul, Int.toNat_of_nonneg (by omega), Int.toNat_of_nonneg hl.1]
  rw [← h1]
  exact Int.ofNat_le.mpr key
end Go.AM.Ytllnlcifddhapaa
