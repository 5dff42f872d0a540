/- Contracts for the law ExploreCovers: comparisons by the reference, two lists are the same, a Pareto set is its own Pareto set. -/
import Derived.Test.YtcfijihoepkgeaaBeB
set_option linter.unusedVariables false
set_option linter.unusedSimpArgs false
namespace Go.AM.Ytcfijihoepkgeaa
open Go Go.AM
set_option maxRecDepth 100000
set_option maxHeartbeats 0
theorem p27 : pu 27 = true := by decide
theorem p15 : pu 15 = true := by decide
theorem p11 : pu 11 = true := by decide
theorem p12 : pu 12 = true := by decide
def lessB (p q : Pt) : Bool := if p.cy ≠ q.cy then decide (p.cy < q.cy) else if p.ii ≠ q.ii then decide (p.ii < q.ii) else decide (p.ar < q.ar)
theorem d27 (k : Nat) (p q : Pt) : callF tbl pu (k + 1) 27 [.agg p.vs, .agg q.vs] [] = some (.bool (lessB p q), [], false) := by
  rw [callF_eq tbl27, Ytcfijihoepkgeaa.c27]
  unfold lessB Pt.vs
  by_cases h1 : p.cy = q.cy
  · by_cases h2 : p.ii = q.ii <;> simp [h1, h2]
  · simp [h1]
theorem lessB_iff (p q : Pt) : lessB p q = true ↔ ltP p q := by
  unfold lessB ltP
  by_cases h1 : p.cy = q.cy
  · by_cases h2 : p.ii = q.ii
    · simp [h1, h2]
    · simp [h1, h2]
  · simp [h1]
theorem d15 (k : Nat) (p q : Pt) : callF tbl pu (k + 1) 15 [.agg p.vs, .agg q.vs] [] = some (.bool (eqP p q), [], false) := by
  rw [callF_eq tbl15, Ytcfijihoepkgeaa.c15]
  unfold eqP Pt.vs
  by_cases h1 : p.cy = q.cy
  · by_cases h2 : p.ii = q.ii <;> simp [h1, h2]
  · simp [h1]
theorem d11 (k : Nat) (p q : Pt) : callF tbl pu (k + 2) 11 [.agg p.vs, .agg q.vs] [] = some (.bool (domP p q), [], false) := by
  have h27 := d27 k p q
  have h15 := d15 k p q
  rw [callF_eq tbl11, Ytcfijihoepkgeaa.c11]
  unfold domP
  unfold lessB at h27
  unfold eqP at h15
  unfold Pt.vs at *
  by_cases h1 : p.cy ≤ q.cy
  · by_cases h2 : p.ii ≤ q.ii
    · by_cases h3 : p.ar ≤ q.ar
      · by_cases h4 : p.cy = q.cy
        · by_cases h5 : p.ii = q.ii
          · by_cases h6 : p.ar < q.ar
            · have h7 : ¬ p.ar = q.ar := by omega
              simp [h4, h5, h6, h7] at h27 h15
              simp [h4, h5, h6, h7, h3, p27, p15, h27, h15, callV_pure]
            · have h7 : p.ar = q.ar := by omega
              simp [h4, h5, h6, h7] at h27 h15
              simp [h4, h5, h6, h7, h3, p27, p15, h27, h15, callV_pure]
          · have h7 : p.ii < q.ii := by omega
            simp [h4, h5, h7] at h27 h15
            simp [h2, h3, h4, h5, h7, p27, p15, h27, h15, callV_pure]
        · have h7 : p.cy < q.cy := by omega
          simp [h4, h7] at h27 h15
          simp [h1, h2, h3, h4, h7, p27, p15, h27, h15, callV_pure]
      · simp [h1, h2, h3]
    · simp [h1, h2]
  · simp [h1]
/-- two lists that are the same -/
def T12 (es : List (List V)) (n j : Nat) : St := ⟨[.tsl 4 es, .tsl 4 es, .undef, .undef, .undef, .undef, .undef, .undef, .undef, .undef, .undef, .undef, .int .i64 n, .int .i64 j] ++ List.replicate 12 .undef, [], false⟩
theorem s12 (call : CallT) (k : Nat) (es : List (List V)) (n j : Nat) (p : Pt) (hn : es.length = n) (hy : es[j]? = some p.vs) (hj : j < n) (hb : n ≤ 100000) : kNext (tidy [0, 1, 12, 13] 0) (execC call pu 0 k c12_b0 (T12 es n j)) = some (T12 es n (j + 1)) := by
  have wj : IntKind.i64.wrap ((j : Int) + 1) = (j : Int) + 1 := wrap64 (by omega) (by omega)
  subst hn
  rw [List.getElem?_eq_getElem hj, Option.some_inj] at hy
  unfold T12 Pt.vs at *
  simp [c12_b0, c12_r0, c12_a0, hj, hy, wj, eqL, eqV]
theorem d12 (k : Nat) (l : List Pt) (hb : l.length ≤ 60) : callF tbl pu (k + 100) 12 [.tsl 4 (vsL l), .tsl 4 (vsL l)] [] = some (.bool true, [], false) := by
  rw [callF_eq tbl12, Ytcfijihoepkgeaa.c12]
  simp [execC_loop, -kIter_succ, -tidy, vsL_length]
  rw [iter_to (fun j => T12 (vsL l) l.length j) l.length (r := (.exit 0, ⟨(T12 (vsL l) l.length l.length).fr.set 14 (.bool false), [], false⟩)) ?h0 (by omega) ?hs ?he (by simp)]
  case h0 => simp [T12]
  case he => simp [T12, c12_b0]
  case hs =>
    intro j hj
    exact s12 _ _ _ _ _ l[j] (vsL_length l) (vsL_get (List.getElem?_eq_getElem hj)) hj (by omega)
  simp [T12]
/-- a list without dominated points and without repetition -/
structure Own (C : List Pt) : Prop where
  nd : ∀ p ∈ C, ∀ q ∈ C, domP p q = false
  dis : C.Pairwise fun p q => eqP p q = false
theorem own_of_par {l C : List Pt} (h : Par l l C) : Own C := ⟨fun p hp q hq => (h.mem q hq).2 p (h.mem p hp).1, h.dis⟩
theorem own_fold {C : List Pt} (h : Own C) : ∀ (R D : List Pt), C = D ++ R → R.foldl (stepP C) D = C
  | [], D, e => by simpa using e.symm
  | p :: R, D, e => by
    have hp : p ∈ C := by rw [e]; simp
    have h1 : (C.any fun y => domP y p) = false := by
      rw [List.any_eq_false]
      intro y hy
      simp [h.nd y hy p hp]
    have h2 : List.findIdx? (fun y => eqP p y) D = none := by
      rw [List.findIdx?_eq_none_iff]
      intro y hy
      have := h.dis
      rw [e] at this
      have := (List.pairwise_append.mp this).2.2 y hy p (by simp)
      rw [Bool.eq_false_iff] at *
      intro h'
      apply this
      rw [eqP_iff] at *
      omega
    have h3 : stepP C D p = D ++ [p] := by simp [stepP, h1, h2]
    rw [List.foldl_cons, h3]
    exact own_fold h R (D ++ [p]) (by rw [e]; simp)
theorem own_par {C : List Pt} (h : Own C) : parL C = C := own_fold h C [] rfl
theorem own_get {C : List Pt} (h : Own C) {a b : Pt} (ha : a ∈ C) (hb : b ∈ C) (he : eqP a b = true) : a = b := by
  obtain ⟨i, hi, rfl⟩ := List.getElem_of_mem ha
  obtain ⟨j, hj, rfl⟩ := List.getElem_of_mem hb
  have hd := List.pairwise_iff_getElem.mp h.dis
  rcases Nat.lt_trichotomy i j with hlt | rfl | hgt
  · have := hd i j hi hj hlt
    rw [he] at this
    cases this
  · rfl
  · have := hd j i hj hi hgt
    rw [Bool.eq_false_iff] at this
    exact absurd (by rw [eqP_iff] at *; omega) this
/-- what is in order has one order -/
theorem srt_unique {C D : List Pt} (h : Own C) (hp : D.Perm C) (sC : Srt C) (sD : Srt D) : D = C := by
  refine List.Perm.eq_of_pairwise (le := leP) (fun a b ha hb h1 h2 => ?_) sD sC hp
  refine own_get h (hp.mem_iff.mp ha) hb ?_
  rw [eqP_iff]
  unfold leP ltP at h1 h2
  omega
end Go.AM.Ytcfijihoepkgeaa
