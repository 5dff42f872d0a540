/- The reference's Pareto set: what it returns. -/
import Derived.Test.YtcfijihoepkgeaaRpA
set_option linter.unusedVariables false
set_option linter.unusedSimpArgs false
namespace Go.AM.Ytcfijihoepkgeaa
open Go Go.AM
set_option maxRecDepth 100000
set_option maxHeartbeats 0
def keepN (l : List Pt) (y : Pt) (i : Nat) : Nat → Bool
  | 0 => true
  | k + 1 => keepN l y i k && !(match l[k]? with | some x => condP x y k i | none => false)
def placeP (o : List Pt) (p : Pt) : Nat := o.findIdx fun q => !lessB q p
def insP (o : List Pt) (p : Pt) : List Pt := o.take (placeP o p) ++ p :: o.drop (placeP o p)
theorem kl14 (F : Nat) (l o : List Pt) (i : Nat) (y : Pt) (d : Bool) (hy : l[i]? = some y) (hb : l.length ≤ 60) :
    ∀ s, tidy [0, 3, 4, 5, 9, 10, 14, 15] 0 s = some (K14 (vsL l) (oV o) (oH o) l.length i 0 true d) → iter (tidy [0, 3, 4, 5, 9, 10, 14, 15] 0) (execC (callF tbl pu (F + 100)) pu 0 (F + 100) c14_b1) (F + 100) s =
      some (.exit 2, ⟨(K14 (vsL l) (oV o) (oH o) l.length i l.length (keepN l y i l.length) d).fr.set 16 (.bool false), oH o, d⟩) := by
  intro s hs
  have hi : i < l.length := (List.getElem?_eq_some_iff.mp hy).1
  refine iter_to (fun k => K14 (vsL l) (oV o) (oH o) l.length i k (keepN l y i k) d) l.length hs (by omega) ?_ (k14e _ _ _ _ _ _ _ _ _) (by simp)
  intro k hk
  have hx : l[k]? = some l[k] := List.getElem?_eq_getElem hk
  show _ = some (K14 _ _ _ _ _ _ (keepN l y i k && !(match l[k]? with | some x => condP x y k i | none => false)) _)
  rw [hx]
  cases o with
  | nil => exact k14a (F + 98) (vsL l) l.length i k (keepN l y i k) d l[k] y (vsL_length l) (vsL_get hx) (vsL_get hy) hi hk (by omega)
  | cons a o => exact k14b (F + 98) (vsL l) l.length i k (keepN l y i k) d (vsL (a :: o)) (a :: o).length l[k] y (vsL_length l) (vsL_get hx) (vsL_get hy) hi hk (by omega)
/-- the place is found -/
theorem wl14 (F : Nat) (l o : List Pt) (i : Nat) (y : Pt) (d : Bool) (hy : l[i]? = some y) (hb : l.length ≤ 60) (ho : o.length ≤ 60) (hne : o ≠ []) :
    ∃ w, ∀ s, tidy [0, 3, 4, 7, 9, 10] 0 s = some (W14 (vsL l) (.sl 4 0 o.length 0 o.length) [⟨4, vsL o, 0, false, true⟩] l.length i 0 d) → iter (tidy [0, 3, 4, 7, 9, 10] 0) (execC (callF tbl pu (F + 100)) pu 0 (F + 100) c14_b0) (F + 100) s =
      some (.exit 4, E14 w (vsL l) (.sl 4 0 o.length 0 o.length) [⟨4, vsL o, 0, false, true⟩] l.length i (placeP o y) d) := by
  have hi : i < l.length := (List.getElem?_eq_some_iff.mp hy).1
  have hle : placeP o y ≤ o.length := List.findIdx_le_length
  have he : ∃ w, execC (callF tbl pu (F + 100)) pu 0 (F + 100) c14_b0 (W14 (vsL l) (.sl 4 0 o.length 0 o.length) [⟨4, vsL o, 0, false, true⟩] l.length i (placeP o y) d) = some (.exit 4, E14 w (vsL l) (.sl 4 0 o.length 0 o.length) [⟨4, vsL o, 0, false, true⟩] l.length i (placeP o y) d) := by
    rcases Nat.lt_or_eq_of_le hle with hlt | heq
    · have hq : o[placeP o y]? = some o[placeP o y] := List.getElem?_eq_getElem hlt
      have hc : lessB o[placeP o y] y = false := by
        have h : (!lessB (o[placeP o y]) y) = true := List.findIdx_getElem (p := fun q => !lessB q y) (xs := o) (w := hlt)
        cases hh : lessB o[placeP o y] y with
        | false => rfl
        | true => rw [hh] at h; cases h
      exact w14e (F + 99) (vsL l) (vsL o) l.length o.length i (placeP o y) d _ y (vsL_length l) (vsL_length o) (vsL_get hy) (vsL_get hq) hi hlt hc
    · rw [heq]
      exact w14y _ _ _ _ _ _ _ _
  obtain ⟨w, he⟩ := he
  refine ⟨w, fun s hs => iter_to (fun t => W14 (vsL l) (.sl 4 0 o.length 0 o.length) [⟨4, vsL o, 0, false, true⟩] l.length i t d) (placeP o y) hs (by omega) ?_ he (by simp)⟩
  intro t ht
  have hto : t < o.length := by omega
  have hq : o[t]? = some o[t] := List.getElem?_eq_getElem hto
  have hc : lessB o[t] y = true := by
    have := List.not_of_lt_findIdx (p := fun q => !lessB q y) (xs := o) ht
    simpa using this
  exact w14s (F + 99) (vsL l) (vsL o) l.length o.length i t d o[t] y (vsL_length l) (vsL_length o) (vsL_get hy) (vsL_get hq) hi hto (by omega) hc
theorem nA14 (F : Nat) (l : List Pt) (i : Nat) (y : Pt) (d : Bool) (hy : l[i]? = some y) (hb : l.length ≤ 60) (hk : keepN l y i l.length = false) :
    kNext (tidy [0, 3, 9, 10] 0) (execC (callF tbl pu (F + 100)) pu 0 (F + 100) c14_b2 (T14 (vsL l) .nils [] l.length i d)) = some (T14 (vsL l) .nils [] l.length (i + 1) d) := by
  have hi : i < l.length := (List.getElem?_eq_some_iff.mp hy).1
  have wi : IntKind.i64.wrap ((i : Int) + 1) = (i : Int) + 1 := wrap64 (by omega) (by omega)
  have h1 := kl14 F l [] i y d hy hb
  rw [hk] at h1
  simp only [oV, oH] at h1
  unfold T14
  simp [c14_b2, execC_loop, -kIter_succ, -tidy, hi, vsL_length]
  rw [h1 _ (by simp [K14])]
  simp [K14, wi]
theorem nB14 (F : Nat) (l o : List Pt) (i : Nat) (y : Pt) (d : Bool) (hy : l[i]? = some y) (hb : l.length ≤ 60) (hne : o ≠ []) (hk : keepN l y i l.length = false) :
    kNext (tidy [0, 3, 9, 10] 0) (execC (callF tbl pu (F + 100)) pu 0 (F + 100) c14_b2 (T14 (vsL l) (.sl 4 0 o.length 0 o.length) [⟨4, vsL o, 0, false, true⟩] l.length i d)) = some (T14 (vsL l) (.sl 4 0 o.length 0 o.length) [⟨4, vsL o, 0, false, true⟩] l.length (i + 1) d) := by
  have hi : i < l.length := (List.getElem?_eq_some_iff.mp hy).1
  have wi : IntKind.i64.wrap ((i : Int) + 1) = (i : Int) + 1 := wrap64 (by omega) (by omega)
  have h1 := kl14 F l o i y d hy hb
  rw [hk, oV_ne hne, oH_ne hne] at h1
  unfold bk at h1
  unfold T14
  simp [c14_b2, execC_loop, -kIter_succ, -tidy, hi, vsL_length]
  rw [h1 _ (by simp [K14])]
  simp [K14, wi]
theorem yA14 (F : Nat) (l : List Pt) (i : Nat) (y : Pt) (d : Bool) (hy : l[i]? = some y) (hb : l.length ≤ 60) (hk : keepN l y i l.length = true) :
    kNext (tidy [0, 3, 9, 10] 0) (execC (callF tbl pu (F + 100)) pu 0 (F + 100) c14_b2 (T14 (vsL l) .nils [] l.length i d)) = some (T14 (vsL l) (.sl 4 0 1 0 1) [⟨4, vsL [y], 0, false, true⟩] l.length (i + 1) d) := by
  have hi : i < l.length := (List.getElem?_eq_some_iff.mp hy).1
  have wi : IntKind.i64.wrap ((i : Int) + 1) = (i : Int) + 1 := wrap64 (by omega) (by omega)
  have h1 := kl14 F l [] i y d hy hb
  rw [hk] at h1
  simp only [oV, oH] at h1
  obtain ⟨w, he⟩ := w14z (callF tbl pu (F + 100)) (F + 100) (vsL l) l.length i d
  have h2 : ∀ s, tidy [0, 3, 4, 7, 9, 10] 0 s = some (W14 (vsL l) .nils [] l.length i 0 d) → iter (tidy [0, 3, 4, 7, 9, 10] 0) (execC (callF tbl pu (F + 100)) pu 0 (F + 100) c14_b0) (F + 100) s = some (.exit 4, E14 w (vsL l) .nils [] l.length i 0 d) := fun s hs => iter_end (k := F + 99) hs he (by simp)
  have hp := vsL_get hy
  have hi2 : i < (vsL l).length := by rw [vsL_length]; exact hi
  rw [List.getElem?_eq_getElem hi2, Option.some_inj] at hp
  unfold T14
  simp [c14_b2, execC_loop, -kIter_succ, -tidy, hi, vsL_length]
  rw [h1 _ (by simp [K14])]
  simp [K14, execC_loop, -kIter_succ, -tidy]
  rw [h2 _ (by simp [W14])]
  have e : vsL [y] = [[.int .i64 y.ix, .int .i64 y.cy, .int .i64 y.ii, .int .i64 y.ar]] := rfl
  unfold Pt.vs at hp
  simp [E14, c14_r2, c14_a2, hi, vsL_length, hp, sliceV, loI, hiI, mxOk, appV, elemsOf, roomB, wi, e]
theorem insP_len (o : List Pt) (p : Pt) : (insP o p).length = o.length + 1 := by
  have : placeP o p ≤ o.length := List.findIdx_le_length
  simp [insP]
  omega
theorem yB14 (F : Nat) (l o : List Pt) (i : Nat) (y : Pt) (d : Bool) (hy : l[i]? = some y) (hb : l.length ≤ 60) (ho : o.length ≤ 60) (hne : o ≠ []) (hk : keepN l y i l.length = true) :
    kNext (tidy [0, 3, 9, 10] 0) (execC (callF tbl pu (F + 100)) pu 0 (F + 100) c14_b2 (T14 (vsL l) (.sl 4 0 o.length 0 o.length) [⟨4, vsL o, 0, false, true⟩] l.length i d)) = some (T14 (vsL l) (.sl 4 0 (o.length + 1) 0 (o.length + 1)) [⟨4, vsL (insP o y), 0, false, true⟩] l.length (i + 1) true) := by
  have hi : i < l.length := (List.getElem?_eq_some_iff.mp hy).1
  have wi : IntKind.i64.wrap ((i : Int) + 1) = (i : Int) + 1 := wrap64 (by omega) (by omega)
  have h1 := kl14 F l o i y d hy hb
  rw [hk, oV_ne hne, oH_ne hne] at h1
  unfold bk at h1
  obtain ⟨w, h2⟩ := wl14 F l o i y d hy hb ho hne
  have hle : placeP o y ≤ o.length := List.findIdx_le_length
  have hp := vsL_get hy
  have hi2 : i < (vsL l).length := by rw [vsL_length]; exact hi
  rw [List.getElem?_eq_getElem hi2, Option.some_inj] at hp
  have v1 := sv1 o.length (placeP o y) hle
  unfold insP
  generalize placeP o y = t at *
  unfold T14
  simp [c14_b2, execC_loop, -kIter_succ, -tidy, hi, vsL_length]
  rw [h1 _ (by simp [K14])]
  simp [K14, execC_loop, -kIter_succ, -tidy]
  rw [h2 _ (by simp [W14])]
  rcases Nat.lt_or_eq_of_le hle with hlt | heq
  · have v2 := sv2 o.length t hlt
    have a1 := ap1 o y t hlt ho
    have a2 := ap2 o (o.drop t) y t hle ho rfl
    unfold Pt.vs at hp a1
    simp [E14, c14_r2, c14_a2, hi, vsL_length, hp, v1, v2, a1, a2, wi]
    rw [if_pos ⟨by kernel_rfl, by kernel_rfl⟩]
    simp [wi]
  · have v2 := sv3 o.length (List.length_pos_iff.mpr hne)
    rw [← heq] at v2
    have a2 := ap2 o [] y t hle ho (by rw [List.drop_eq_nil_of_le (by omega)])
    have e1 : 1 + (o.length - t) = 1 := by omega
    rw [e1] at a2
    have e : vsL [y] = [[.int .i64 y.ix, .int .i64 y.cy, .int .i64 y.ii, .int .i64 y.ar]] := rfl
    rw [e] at a2
    have a1 : appV [⟨4, vsL o, 0, false, true⟩, ⟨4, [[.int .i64 y.ix, .int .i64 y.cy, .int .i64 y.ii, .int .i64 y.ar]], 0, false, true⟩] 23 4 32 (.sl 4 1 1 0 1) (.tsl 4 []) = some (.sl 4 1 1 0 1, .new []) := by
      simp [appV, elemsOf, roomB]
    unfold Pt.vs at hp
    rw [heq] at v1 v2 a2
    rw [heq]
    simp [E14, c14_r2, c14_a2, hi, vsL_length, hp, v1, v2, a1, a2, wi]
    rw [if_pos (by kernel_rfl)]
    simp [wi]
/-- what the rounds make -/
def refN (l : List Pt) : Nat → List Pt
  | 0 => []
  | i + 1 => match l[i]? with
    | some y => if keepN l y i l.length then insP (refN l i) y else refN l i
    | none => refN l i
theorem refN_len (l : List Pt) : ∀ i, (refN l i).length ≤ i
  | 0 => by simp [refN]
  | i + 1 => by
    have := refN_len l i
    simp only [refN]
    split
    · split
      · rw [insP_len]; omega
      · omega
    · omega
theorem s14 (F : Nat) (l : List Pt) (i : Nat) (d : Bool) (hi : i < l.length) (hb : l.length ≤ 60) :
    ∃ d', kNext (tidy [0, 3, 9, 10] 0) (execC (callF tbl pu (F + 100)) pu 0 (F + 100) c14_b2 (T14 (vsL l) (oV (refN l i)) (oH (refN l i)) l.length i d)) = some (T14 (vsL l) (oV (refN l (i + 1))) (oH (refN l (i + 1))) l.length (i + 1) d') := by
  have hy : l[i]? = some l[i] := List.getElem?_eq_getElem hi
  have hlen := refN_len l i
  have e : refN l (i + 1) = if keepN l l[i] i l.length then insP (refN l i) l[i] else refN l i := by simp only [refN, hy]
  rw [e]
  generalize refN l i = o at *
  cases hk : keepN l l[i] i l.length with
  | false =>
    rw [if_neg (by simp)]
    refine ⟨d, ?_⟩
    by_cases hne : o = []
    · subst hne; exact nA14 F l i l[i] d hy hb hk
    · rw [oV_ne hne, oH_ne hne]; exact nB14 F l o i l[i] d hy hb hne hk
  | true =>
    rw [if_pos rfl]
    by_cases hne : o = []
    · subst hne
      exact ⟨d, yA14 F l i l[i] d hy hb hk⟩
    · have hne2 : insP o l[i] ≠ [] := by
        intro h
        have := insP_len o l[i]
        rw [h] at this
        cases this
      rw [oV_ne hne, oH_ne hne, oV_ne hne2, oH_ne hne2, insP_len]
      exact ⟨true, yB14 F l o i l[i] d hy hb (by omega) hne hk⟩
theorem l14 (F : Nat) (l : List Pt) (hb : l.length ≤ 60) : ∀ (m i M : Nat) (d : Bool), i + m = l.length → m < M → ∃ d', ∀ s, tidy [0, 3, 9, 10] 0 s = some (T14 (vsL l) (oV (refN l i)) (oH (refN l i)) l.length i d) →
      iter (tidy [0, 3, 9, 10] 0) (execC (callF tbl pu (F + 100)) pu 0 (F + 100) c14_b2) M s =
        some (.exit 0, ⟨(T14 (vsL l) (oV (refN l l.length)) (oH (refN l l.length)) l.length l.length d').fr.set 11 (.bool false), oH (refN l l.length), d'⟩)
  | 0, i, M + 1, d, hi, hM => by
    obtain rfl : i = l.length := by omega
    exact ⟨d, fun s hs => iter_end hs (by simp [T14, c14_b2]) (by simp)⟩
  | m + 1, i, M + 1, d, hi, hM => by
    obtain ⟨d1, h1⟩ := s14 F l i d (by omega) hb
    obtain ⟨d2, h2⟩ := l14 F l hb m (i + 1) M d1 (by omega) (by omega)
    exact ⟨d2, fun s hs => iter_go hs h1 h2⟩
theorem d14 (k : Nat) (l : List Pt) (hb : l.length ≤ 60) : ∃ d, callF tbl pu (k + 101) 14 [.tsl 4 (vsL l)] [] = some (oV (refN l l.length), oH (refN l l.length), d) := by
  obtain ⟨d, h⟩ := l14 k l hb l.length 0 (k + 100) false (by omega) (by omega)
  refine ⟨d, ?_⟩
  rw [callF_eq tbl14, Ytcfijihoepkgeaa.c14]
  simp [execC_loop, -kIter_succ, -tidy, vsL_length]
  rw [h _ (by simp [T14, refN, oV, oH])]
  by_cases hne : refN l l.length = []
  · rw [hne]; simp [T14, oV, oH]
  · rw [oV_ne hne, oH_ne hne]; simp [T14, bk]
end Go.AM.Ytcfijihoepkgeaa
