/- symMerge puts two neighbouring ordered parts of a list in order. -/
import Derived.Test.YtcfijihoepkgeaaSoG
set_option linter.unusedVariables false
set_option linter.unusedSimpArgs false
namespace Go.AM.Ytcfijihoepkgeaa
open Go Go.AM
set_option maxRecDepth 100000
set_option maxHeartbeats 0
theorem mem_take_get {l : List Pt} {n : Nat} {x : Pt} (h : x ∈ l.take n) : ∃ i, i < n ∧ l[i]? = some x := by
  obtain ⟨i, hi, hx⟩ := List.getElem_of_mem h
  rw [List.length_take] at hi
  refine ⟨i, by omega, ?_⟩
  rw [List.getElem_take] at hx
  rw [← hx, List.getElem?_eq_getElem]
theorem mem_drop_get {l : List Pt} {n : Nat} {x : Pt} (h : x ∈ l.drop n) : ∃ i, n ≤ i ∧ l[i]? = some x := by
  obtain ⟨i, hi, hx⟩ := List.getElem_of_mem h
  rw [List.length_drop] at hi
  refine ⟨n + i, by omega, ?_⟩
  rw [List.getElem_drop] at hx
  rw [← hx, List.getElem?_eq_getElem]
theorem d77g (N : Nat) (ih : ∀ N', N' < N → ∀ (K L a m b : Nat) (P A B S : List Pt), A.length + B.length = N' → A ≠ [] → B ≠ [] → Srt A → Srt B → L = (P ++ (A ++ (B ++ S))).length → a = P.length → m = P.length + A.length → b = P.length + A.length + B.length → L ≤ 100000 → N' + L + 10 ≤ K → Merged K L a m b P A B S)
    (K L a m b : Nat) (P A B S : List Pt) (hN : A.length + B.length = N) (hA : 2 ≤ A.length) (hB : 2 ≤ B.length) (sA : Srt A) (sB : Srt B) (el : L = (P ++ (A ++ (B ++ S))).length) (ea : a = P.length) (em : m = P.length + A.length) (eb : b = P.length + A.length + B.length) (hL : L ≤ 100000) (hK : N + L + 10 ≤ K) : Merged K L a m b P A B S := by
  obtain ⟨k, rfl⟩ : ∃ k, K = k + 7 + 1 := ⟨K - 8, by omega⟩
  have hl2 : L = P.length + (A.length + (B.length + S.length)) := by simpa using el
  have gA : ∀ c, a ≤ c → c < m → ∃ x, A[c - a]? = some x ∧ (P ++ (A ++ (B ++ S)))[c]? = some x := by
    intro c h1 h2
    refine ⟨A[c - a]'(by omega), by simp, ?_⟩
    rw [List.getElem?_append_right (by omega), List.getElem?_append_left (by omega)]
    rw [show c - P.length = c - a by omega]
    simp
  have gB : ∀ c, m ≤ c → c < b → ∃ x, B[c - m]? = some x ∧ (P ++ (A ++ (B ++ S)))[c]? = some x := by
    intro c h1 h2
    refine ⟨B[c - m]'(by omega), by simp, ?_⟩
    rw [List.getElem?_append_right (by omega), List.getElem?_append_right (by omega), List.getElem?_append_left (by omega)]
    rw [show c - P.length - A.length = c - m by omega]
    simp
  obtain ⟨mid, hmid⟩ : ∃ mid, (a + b) / 2 = mid := ⟨_, rfl⟩
  obtain ⟨n, hn⟩ : ∃ n, mid + m = n := ⟨_, rfl⟩
  obtain ⟨p, hp⟩ : ∃ p, p + 1 = n := ⟨n - 1, by omega⟩
  obtain ⟨lo, hlo⟩ : ∃ lo, lo = if mid < m then n - b else a := ⟨_, rfl⟩
  obtain ⟨hi, hhi⟩ : ∃ hi, hi = if mid < m then mid else m := ⟨_, rfl⟩
  have rg : a ≤ lo ∧ lo ≤ hi ∧ hi ≤ m ∧ hi ≤ mid ∧ (mid < m → b ≤ n) ∧ (lo = a ∨ n = lo + b) ∧ (hi = m ∨ hi = mid) ∧ n ≤ lo + b := by
    split at hlo <;> rename_i hc <;> simp only [hc, if_true, if_false] at hhi <;> subst hlo hhi <;> omega
  obtain ⟨ra, rlh, rm, rmid, rbn, rlo, rhi, rnb⟩ := rg
  -- the search
  have hg : ∀ c, lo ≤ c → c < hi → ∃ x y, B[p - c - m]? = some x ∧ (P ++ (A ++ (B ++ S)))[p - c]? = some x ∧ A[c - a]? = some y ∧ (P ++ (A ++ (B ++ S)))[c]? = some y := by
    intro c h1 h2
    obtain ⟨x, hx, hx'⟩ := gB (p - c) (by omega) (by omega)
    obtain ⟨y, hy, hy'⟩ := gA c (by omega) (by omega)
    exact ⟨x, y, hx, hx', hy, hy'⟩
  obtain ⟨e, e1, e2, e3, e4, e5⟩ := bsearch (pre := tidy [0, 1, 2, 3, 4, 18, 19, 20, 21, 22] 1) (f := execC (callF tbl pu (k + 7)) pu 1 (k + 7) c77_b0) (fun i j => M77 (vsL (P ++ (A ++ (B ++ S)))) L a m b mid n p i j false) (fun c => ∀ x y, B[p - c - m]? = some x → A[c - a]? = some y → leP y x) lo hi
    (by
      intro c c' h1 h2 h3 hq x y hx hy
      obtain ⟨x', y', hx', _, hy', _⟩ := hg c' (by omega) h3
      exact leP_trans (srt_get sA (by omega) hy hy') (leP_trans (hq x' y' hx' hy') (srt_get sB (by omega) hx' hx)))
    (by
      intro i j h1 h2 h3 hq
      obtain ⟨x, y, hx, hx', hy, hy'⟩ := hg ((i + j) / 2) (by omega) (by omega)
      have := s77m k (vsL (P ++ (A ++ (B ++ S)))) L a m b mid n p i j ((i + j) / 2) false x y (by rw [vsL_length, ← el]) rfl h2 (vsL_get hx') (vsL_get hy') (by omega) (by omega) (by omega) (by omega) (by omega) hL
      rw [if_pos (fun h => hq x y hx hy ((cmp3_neg _ _).mp h))] at this
      exact this)
    (by
      intro i j h1 h2 h3 hq
      obtain ⟨x, y, hx, hx', hy, hy'⟩ := hg ((i + j) / 2) (by omega) (by omega)
      have := s77m k (vsL (P ++ (A ++ (B ++ S)))) L a m b mid n p i j ((i + j) / 2) false x y (by rw [vsL_length, ← el]) rfl h2 (vsL_get hx') (vsL_get hy') (by omega) (by omega) (by omega) (by omega) (by omega) hL
      rw [if_neg (fun h => hq (by intro z w hz hw; rw [hx] at hz; rw [hy] at hw; cases hz; cases hw; exact fun hl => h ((cmp3_neg _ _).mpr hl)))] at this
      exact this)
    _ (fun i => e77m _ _ _ L a m b mid n p i false) (by simp) _ lo hi rfl (by omega) rlh (by omega) (by intro c h1 h2; omega) (by intro c h1 h2; omega)
  obtain ⟨en, hen⟩ : ∃ en, e + en = n := ⟨n - e, by omega⟩
  have i1 : ∀ u ∈ A.take (e - a), ∀ v ∈ B.drop (en - m), leP u v := by
    intro u hu v hv
    obtain ⟨i, hi1, hu'⟩ := mem_take_get hu
    obtain ⟨j, hj1, hv'⟩ := mem_drop_get hv
    have hjB : j < B.length := (List.getElem?_eq_some_iff.mp hv').1
    have hlt : lo < e := by omega
    obtain ⟨x, y, hx, _, hy, _⟩ := hg (e - 1) (by omega) (by omega)
    exact leP_trans (srt_get sA (by omega) hu' hy) (leP_trans (e3 (e - 1) (by omega) (by omega) x y hx hy) (srt_get sB (by omega) hx hv'))
  have i2 : ∀ u ∈ B.take (en - m), ∀ v ∈ A.drop (e - a), leP u v := by
    intro u hu v hv
    obtain ⟨i, hi1, hu'⟩ := mem_take_get hu
    obtain ⟨j, hj1, hv'⟩ := mem_drop_get hv
    have hjA : j < A.length := (List.getElem?_eq_some_iff.mp hv').1
    have hlt : e < hi := by omega
    obtain ⟨x, y, hx, _, hy, _⟩ := hg e (by omega) hlt
    have hxy : ltP x y := by
      refine Classical.byContradiction fun hh => e4 e (Nat.le_refl _) hlt ?_
      intro z w hz hw
      rw [hx] at hz; rw [hy] at hw; cases hz; cases hw
      exact hh
    exact leP_trans (srt_get sB (by omega) hu' hx) (leP_trans (ltP_le hxy) (srt_get sA (by omega) hy hv'))
  have tA := List.take_append_drop (e - a) A
  have tB := List.take_append_drop (en - m) B
  have lA : (A.take (e - a)).length = e - a := by simp; omega
  have lB : (B.take (en - m)).length = en - m := by simp; omega
  generalize A.take (e - a) = A1 at *
  generalize A.drop (e - a) = A2 at *
  generalize B.take (en - m) = B1 at *
  generalize B.drop (en - m) = B2 at *
  subst tA tB
  have hsA := List.pairwise_append.mp sA
  have hsB := List.pairwise_append.mp sB
  simp only [List.length_append] at em eb hN hA hB hl2
  -- the three steps
  have S1 : ∃ d1, (e < m → m < en → callF tbl pu (k + 7) 89 [.sl 4 0 L 0 L, .int .i64 e, .int .i64 m, .int .i64 en, .fn 34 []] [bk (P ++ (A1 ++ A2 ++ (B1 ++ B2 ++ S)))] = some (.tup [], [bk (P ++ (A1 ++ (B1 ++ (A2 ++ (B2 ++ S)))))], d1)) ∧
      (¬ (e < m ∧ m < en) → P ++ (A1 ++ (B1 ++ (A2 ++ (B2 ++ S)))) = P ++ (A1 ++ A2 ++ (B1 ++ B2 ++ S))) ∧ (d1 = true ∨ P ++ (A1 ++ (B1 ++ (A2 ++ (B2 ++ S)))) = P ++ (A1 ++ A2 ++ (B1 ++ B2 ++ S))) := by
    refine ⟨true, fun q1 q2 => ?_, fun q => ?_, Or.inl rfl⟩
    · have := d89 (k + 7) (P ++ A1) A2 B1 (B2 ++ S) (by intro h; subst h; simp at *; omega) (by intro h; subst h; simp at *; omega) L e m en (by rw [hl2]; simp; omega) (by simp; omega) (by simp; omega) (by simp; omega) hL (by omega)
      simpa using this
    · by_cases h : A2 = []
      · subst h; simp
      · have h' : B1 = [] := by
          have := List.length_pos_iff.mpr h
          apply List.eq_nil_of_length_eq_zero
          omega
        subst h'; simp
  have S2 : ∃ C1 d2, C1.Perm (A1 ++ B1) ∧ Srt C1 ∧ (a < e → e < mid → callF tbl pu (k + 7) 77 [.sl 4 0 L 0 L, .int .i64 a, .int .i64 e, .int .i64 mid, .fn 34 []] [bk (P ++ (A1 ++ (B1 ++ (A2 ++ (B2 ++ S)))))] = some (.tup [], [bk (P ++ (C1 ++ (A2 ++ (B2 ++ S))))], d2)) ∧
      (¬ (a < e ∧ e < mid) → C1 = A1 ++ B1) ∧ (d2 = true ∨ C1 = A1 ++ B1) := by
    by_cases q : a < e ∧ e < mid
    · obtain ⟨C1, d2, h1, h2, h3, h4⟩ := ih (A1.length + B1.length) (by omega) (k + 7) L a e mid P A1 B1 (A2 ++ (B2 ++ S)) rfl (by intro h; subst h; simp at *; omega) (by intro h; subst h; simp at *; omega) hsA.1 hsB.1 (by rw [hl2]; simp; omega) ea (by omega) (by omega) hL (by omega)
      exact ⟨C1, d2, h1, h2, fun _ _ => h4, fun h => absurd q h, h3⟩
    · refine ⟨A1 ++ B1, false, List.Perm.refl _, ?_, fun q1 q2 => absurd ⟨q1, q2⟩ q, fun _ => rfl, Or.inr rfl⟩
      by_cases h : A1 = []
      · subst h; simpa using hsB.1
      · have h' : B1 = [] := by
          have := List.length_pos_iff.mpr h
          apply List.eq_nil_of_length_eq_zero
          omega
        subst h'; simpa using hsA.1
  obtain ⟨d1, a1, a2, a3⟩ := S1
  obtain ⟨C1, d2, b1, b2, b3, b4, b5⟩ := S2
  have lC1 : C1.length = A1.length + B1.length := by rw [b1.length_eq]; simp
  have S3 : ∃ C2 d3, C2.Perm (A2 ++ B2) ∧ Srt C2 ∧ (mid < en → en < b → callF tbl pu (k + 7) 77 [.sl 4 0 L 0 L, .int .i64 mid, .int .i64 en, .int .i64 b, .fn 34 []] [bk (P ++ (C1 ++ (A2 ++ (B2 ++ S))))] = some (.tup [], [bk (P ++ (C1 ++ (C2 ++ S)))], d3)) ∧
      (¬ (mid < en ∧ en < b) → C2 = A2 ++ B2) ∧ (d3 = true ∨ C2 = A2 ++ B2) := by
    by_cases q : mid < en ∧ en < b
    · obtain ⟨C2, d3, h1, h2, h3, h4⟩ := ih (A2.length + B2.length) (by omega) (k + 7) L mid en b (P ++ C1) A2 B2 S rfl (by intro h; subst h; simp at *; omega) (by intro h; subst h; simp at *; omega) hsA.2.1 hsB.2.1 (by rw [hl2]; simp; omega) (by simp; omega) (by simp; omega) (by simp; omega) hL (by omega)
      exact ⟨C2, d3, h1, h2, fun _ _ => by simpa using h4, fun h => absurd q h, h3⟩
    · refine ⟨A2 ++ B2, false, List.Perm.refl _, ?_, fun q1 q2 => absurd ⟨q1, q2⟩ q, fun _ => rfl, Or.inr rfl⟩
      by_cases h : A2 = []
      · subst h; simpa using hsB.2.1
      · have h' : B2 = [] := by
          have := List.length_pos_iff.mpr h
          apply List.eq_nil_of_length_eq_zero
          omega
        subst h'; simpa using hsA.2.1
  obtain ⟨C2, d3, f1, f2, f3, f4, f5⟩ := S3
  have hT := t77 k L a m b mid n p e en lo hi (P ++ (A1 ++ A2 ++ (B1 ++ B2 ++ S))) (P ++ (A1 ++ (B1 ++ (A2 ++ (B2 ++ S))))) (P ++ (C1 ++ (A2 ++ (B2 ++ S)))) (P ++ (C1 ++ (C2 ++ S))) d1 d2 d3
    a1 a2 a3 b3 (fun h => by rw [b4 h]; simp) (b5.imp id fun h => by rw [h]; simp) f3 (fun h => by rw [f4 h]; simp) (f5.imp id fun h => by rw [h]; simp)
    (by omega) (by omega) (by omega) (by omega) (by omega) hmid hn hp hen hlo hhi rbn (fun M s hM hs => e5 M s hM hs) (by omega)
  obtain ⟨d, hd, hc⟩ := hT
  refine ⟨C1 ++ C2, d, ?_, ?_, ?_, ?_⟩
  · refine (b1.append f1).trans ?_
    simp only [List.append_assoc]
    refine List.Perm.append_left _ ?_
    rw [← List.append_assoc, ← List.append_assoc]
    exact List.Perm.append_right _ List.perm_append_comm
  · refine List.pairwise_append.mpr ⟨b2, f2, fun u hu v hv => ?_⟩
    have hu := b1.mem_iff.mp hu
    have hv := f1.mem_iff.mp hv
    rcases List.mem_append.mp hu with hu | hu <;> rcases List.mem_append.mp hv with hv | hv
    · exact hsA.2.2 u hu v hv
    · exact i1 u hu v hv
    · exact i2 u hu v hv
    · exact hsB.2.2 u hu v hv
  · refine hd.imp id fun h => ?_
    have := List.append_cancel_left h
    have h2 : (C1 ++ C2) ++ S = (A1 ++ A2 ++ (B1 ++ B2)) ++ S := by simpa using this
    exact List.append_cancel_right h2
  · simpa using hc
theorem d77 : ∀ (N K L a m b : Nat) (P A B S : List Pt), A.length + B.length = N → A ≠ [] → B ≠ [] → Srt A → Srt B → L = (P ++ (A ++ (B ++ S))).length → a = P.length → m = P.length + A.length → b = P.length + A.length + B.length → L ≤ 100000 → N + L + 10 ≤ K → Merged K L a m b P A B S := by
  intro N
  induction N using Nat.strongRecOn with
  | ind N ih =>
    intro K L a m b P A B S hN hA hB sA sB el ea em eb hL hK
    have lA := List.length_pos_iff.mpr hA
    have lB := List.length_pos_iff.mpr hB
    by_cases h1 : A.length = 1
    · obtain ⟨x, rfl⟩ := List.length_eq_one_iff.mp h1
      exact d77x K L a m b P B S x el ea em eb hL (by omega) sB
    · by_cases h2 : B.length = 1
      · obtain ⟨y, rfl⟩ := List.length_eq_one_iff.mp h2
        exact d77y K L a m b P A S y el ea em eb hL (by omega) h1 sA
      · exact d77g N ih K L a m b P A B S hN (by omega) (by omega) sA sB el ea em eb hL hK
end Go.AM.Ytcfijihoepkgeaa
