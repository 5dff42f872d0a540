/- What Pareto's and Best's rounds make, in plain words. -/
import Derived.Test.YtcfijihoepkgeaaBeA
set_option linter.unusedVariables false
set_option linter.unusedSimpArgs false
namespace Go.AM.Ytcfijihoepkgeaa
open Go Go.AM
set_option maxRecDepth 100000
set_option maxHeartbeats 0
theorem domP_iff (p q : Pt) : domP p q = true ↔ p.cy ≤ q.cy ∧ p.ii ≤ q.ii ∧ p.ar ≤ q.ar ∧ (p.cy < q.cy ∨ p.ii < q.ii ∨ p.ar < q.ar) := by
  simp [domP, and_assoc, or_assoc]
theorem eqP_iff (p q : Pt) : eqP p q = true ↔ p.cy = q.cy ∧ p.ii = q.ii ∧ p.ar = q.ar := by
  simp [eqP, and_assoc]
/-- no point of the list dominates it -/
def nd (l : List Pt) (p : Pt) : Prop := ∀ q ∈ l, domP q p = false
/-- what the rounds have made of a part of the list -/
structure Par (l D o : List Pt) : Prop where
  mem : ∀ q ∈ o, q ∈ D ∧ nd l q
  all : ∀ p ∈ D, nd l p → ∃ q ∈ o, eqP p q = true ∧ q.ix ≤ p.ix
  dis : o.Pairwise fun p q => eqP p q = false
theorem par_step {l D o : List Pt} {p : Pt} (h : Par l D o) : Par l (D ++ [p]) (stepP l o p) := by
  unfold stepP
  cases hd : l.any fun y => domP y p with
  | true =>
    rw [if_pos rfl]
    refine ⟨fun q hq => ⟨by simp [(h.mem q hq).1], (h.mem q hq).2⟩, fun x hx hn => ?_, h.dis⟩
    rcases List.mem_append.mp hx with hx | hx
    · exact h.all x hx hn
    · rw [List.mem_singleton.mp hx] at hn
      obtain ⟨y, hy, hy'⟩ := List.any_eq_true.mp hd
      rw [hn y hy] at hy'
      cases hy'
  | false =>
    rw [if_neg (by simp)]
    have hnp : nd l p := by
      intro q hq
      have := List.any_eq_false.mp hd q hq
      simpa using this
    cases hf : List.findIdx? (fun y => eqP p y) o with
    | none =>
      have hno := List.findIdx?_eq_none_iff.mp hf
      refine ⟨fun q hq => ?_, fun x hx hn => ?_, ?_⟩
      · rcases List.mem_append.mp hq with hq | hq
        · exact ⟨by simp [(h.mem q hq).1], (h.mem q hq).2⟩
        · rw [List.mem_singleton.mp hq]; exact ⟨by simp, hnp⟩
      · rcases List.mem_append.mp hx with hx | hx
        · obtain ⟨q, h1, h2⟩ := h.all x hx hn
          exact ⟨q, by simp [h1], h2⟩
        · rw [List.mem_singleton.mp hx]
          exact ⟨p, by simp, by simp [eqP], Int.le_refl _⟩
      · refine List.pairwise_append.mpr ⟨h.dis, by simp, fun a ha b hb => ?_⟩
        rw [List.mem_singleton.mp hb]
        have := hno a ha
        rw [Bool.eq_false_iff] at *
        intro h'
        apply this
        rw [eqP_iff] at *
        omega
    | some i =>
      obtain ⟨hi, hpi, _⟩ := List.findIdx?_eq_some_iff_getElem.mp hf
      have hq : o[i]? = some o[i] := List.getElem?_eq_getElem hi
      simp only [hq]
      by_cases hc : p.ix < o[i].ix
      · rw [if_pos hc]
        have hdi := List.pairwise_iff_getElem.mp h.dis
        refine ⟨fun q hq => ?_, fun x hx hn => ?_, ?_⟩
        · rcases List.mem_or_eq_of_mem_set hq with hq | rfl
          · exact ⟨by simp [(h.mem q hq).1], (h.mem q hq).2⟩
          · exact ⟨by simp, hnp⟩
        · rcases List.mem_append.mp hx with hx | hx
          · obtain ⟨q, h1, h2, h3⟩ := h.all x hx hn
            obtain ⟨j, hj, hjq⟩ := List.getElem_of_mem h1
            by_cases hji : j = i
            · subst hji
              refine ⟨p, List.mem_set hi _, ?_, ?_⟩
              · rw [eqP_iff] at *
                rw [hjq] at hpi
                omega
              · rw [hjq] at hc; omega
            · refine ⟨q, ?_, h2, h3⟩
              rw [← hjq]
              exact List.mem_iff_getElem.mpr ⟨j, by simpa using hj, by rw [List.getElem_set_ne (by omega)]⟩
          · rw [List.mem_singleton.mp hx]
            exact ⟨p, List.mem_set hi _, by simp [eqP], Int.le_refl _⟩
        · rw [List.pairwise_iff_getElem]
          intro a b ha hb hab
          rw [List.length_set] at ha hb
          rw [List.getElem_set, List.getElem_set]
          have key := hdi a b ha hb hab
          rw [Bool.eq_false_iff] at *
          intro h'
          apply key
          rw [eqP_iff] at *
          by_cases h1 : i = a <;> by_cases h2 : i = b
          · omega
          · subst h1; rw [if_pos rfl, if_neg h2] at h'; omega
          · subst h2; rw [if_pos rfl, if_neg h1] at h'; omega
          · rw [if_neg h1, if_neg h2] at h'; omega
      · rw [if_neg hc]
        refine ⟨fun q hq => ⟨by simp [(h.mem q hq).1], (h.mem q hq).2⟩, fun x hx hn => ?_, h.dis⟩
        rcases List.mem_append.mp hx with hx | hx
        · exact h.all x hx hn
        · rw [List.mem_singleton.mp hx]
          exact ⟨o[i], List.getElem_mem hi, hpi, by omega⟩
theorem par_fold (l : List Pt) : ∀ (R D o : List Pt), Par l D o → Par l (D ++ R) (R.foldl (stepP l) o)
  | [], D, o, h => by simpa using h
  | p :: R, D, o, h => by
    have := par_fold l R (D ++ [p]) (stepP l o p) (par_step h)
    simpa using this
theorem par (l : List Pt) : Par l l (parL l) := by
  have := par_fold l l [] [] ⟨by simp, by simp, List.Pairwise.nil⟩
  unfold parL
  simpa using this
theorem par_perm {l D o C : List Pt} (h : Par l D o) (hC : C.Perm o) : Par l D C :=
  ⟨fun q hq => h.mem q (hC.mem_iff.mp hq), fun p hp hn => by obtain ⟨q, h1, h2⟩ := h.all p hp hn; exact ⟨q, hC.mem_iff.mpr h1, h2⟩,
   hC.symm.pairwise h.dis (fun {a b} h => by rw [Bool.eq_false_iff] at *; intro h'; apply h; rw [eqP_iff] at *; omega)⟩
theorem ex_min : ∀ (l : List Pt), l ≠ [] → ∃ m ∈ l, ∀ z ∈ l, leP m z
  | [a], _ => ⟨a, by simp, by simp [leP_refl]⟩
  | a :: b :: l, _ => by
    obtain ⟨m, h1, h2⟩ := ex_min (b :: l) (by simp)
    by_cases h : ltP a m
    · refine ⟨a, by simp, fun z hz => ?_⟩
      rcases List.mem_cons.mp hz with rfl | hz
      · exact leP_refl _
      · exact leP_trans (ltP_le h) (h2 z hz)
    · refine ⟨m, by simp [List.mem_cons.mp h1], fun z hz => ?_⟩
      rcases List.mem_cons.mp hz with rfl | hz
      · exact h
      · exact h2 z hz
/-- each point of a list is met or beaten by one that no point dominates -/
theorem ex_nd (l : List Pt) (x : Pt) (hx : x ∈ l) : ∃ y ∈ l, nd l y ∧ y.cy ≤ x.cy ∧ y.ii ≤ x.ii ∧ y.ar ≤ x.ar := by
  obtain ⟨m, h1, h2⟩ := ex_min (l.filter fun y => decide (y.cy ≤ x.cy ∧ y.ii ≤ x.ii ∧ y.ar ≤ x.ar)) (by
    intro h
    have : x ∈ l.filter fun y => decide (y.cy ≤ x.cy ∧ y.ii ≤ x.ii ∧ y.ar ≤ x.ar) := by simp [hx]
    rw [h] at this
    cases this)
  simp only [List.mem_filter, decide_eq_true_eq] at h1 h2
  refine ⟨m, h1.1, fun q hq => ?_, h1.2⟩
  rw [Bool.eq_false_iff]
  intro h
  rw [domP_iff] at h
  have := h2 q ⟨hq, by omega⟩
  apply this
  unfold ltP
  omega
/-- and so by a point of the Pareto set -/
theorem par_cover {l C : List Pt} (h : Par l l C) (x : Pt) (hx : x ∈ l) : ∃ q ∈ C, q.cy ≤ x.cy ∧ q.ii ≤ x.ii ∧ q.ar ≤ x.ar := by
  obtain ⟨y, h1, h2, h3⟩ := ex_nd l x hx
  obtain ⟨q, g1, g2, _⟩ := h.all y h1 h2
  rw [eqP_iff] at g2
  exact ⟨q, g1, by omega⟩
/-- what Best's rounds have found -/
theorem best_ok (area ii : Int) (l : List Pt) : ∀ j, j ≤ l.length → ∀ x ∈ l.take j, feP area ii x → ∃ i p, bestN area ii l j = some (i, p) ∧ feP area ii p ∧ ¬ btP x p
  | 0, _, x, hx, _ => by simp at hx
  | j + 1, hj, x, hx, hf => by
    have hy : l[j]? = some l[j] := List.getElem?_eq_getElem (by omega)
    have ht : l.take (j + 1) = l.take j ++ [l[j]] := by rw [List.take_succ_eq_append_getElem (by omega)]
    rw [ht] at hx
    simp only [bestN, hy, stepB]
    rcases List.mem_append.mp hx with hx | hx
    · obtain ⟨i, p, h1, h2, h3⟩ := best_ok area ii l j (by omega) x hx hf
      rw [h1]
      by_cases hfj : feP area ii l[j]
      · rw [if_pos hfj]
        by_cases hb : btP l[j] p
        · simp only [if_pos hb]
          exact ⟨_, _, rfl, hfj, by unfold btP at *; omega⟩
        · simp only [if_neg hb]
          exact ⟨_, _, rfl, h2, h3⟩
      · rw [if_neg hfj]
        exact ⟨_, _, rfl, h2, h3⟩
    · have hx := List.mem_singleton.mp hx
      subst hx
      rw [if_pos hf]
      cases hB : bestN area ii l j with
      | none => exact ⟨_, _, rfl, hf, by unfold btP; omega⟩
      | some o =>
        obtain ⟨i, p⟩ := o
        by_cases hb : btP l[j] p
        · simp only [if_pos hb]
          exact ⟨_, _, rfl, hf, by unfold btP; omega⟩
        · simp only [if_neg hb]
          refine ⟨_, _, rfl, ?_, hb⟩
          have := bestN_get hB
          have hm : p ∈ l.take j := List.mem_iff_getElem?.mpr ⟨i, by rw [List.getElem?_take, if_pos this.1]; exact this.2⟩
          obtain ⟨i', p', e1, e2, _⟩ := best_fe area ii l j i p hB
          exact e2
where best_fe (area ii : Int) (l : List Pt) : ∀ j i p, bestN area ii l j = some (i, p) → ∃ i' p', some (i', p') = some (i, p) ∧ feP area ii p ∧ True
  | 0, i, p, h => by cases h
  | j + 1, i, p, h => by
    simp only [bestN] at h
    cases hy : l[j]? with
    | none => rw [hy] at h; exact best_fe area ii l j i p h
    | some q =>
      rw [hy] at h
      simp only [stepB] at h
      split at h
      · rename_i hq
        split at h
        · cases h; exact ⟨_, _, rfl, hq, trivial⟩
        · rename_i i' q' hb
          split at h
          · cases h; exact ⟨_, _, rfl, hq, trivial⟩
          · cases h; exact best_fe area ii l j i p hb
      · exact best_fe area ii l j i p h
theorem best_fe {area ii : Int} {l : List Pt} {j i : Nat} {p : Pt} (h : bestN area ii l j = some (i, p)) : feP area ii p := by
  obtain ⟨_, _, _, h, _⟩ := best_ok.best_fe area ii l j i p h
  exact h
/-- the best of the list and the best of its Pareto set have the same cycles and area -/
theorem best_par {area ii : Int} {l C : List Pt} {i : Nat} {p : Pt} (hC : Par l l C) (h : bestN area ii l l.length = some (i, p)) :
    ∃ j q, bestN area ii C C.length = some (j, q) ∧ q.cy = p.cy ∧ q.ar = p.ar := by
  have hp : p ∈ l := List.mem_iff_getElem?.mpr ⟨i, (bestN_get h).2⟩
  have hf := best_fe h
  obtain ⟨c, c1, c2⟩ := par_cover hC p hp
  have hfc : feP area ii c := by unfold feP at *; omega
  obtain ⟨j, q, q1, q2, q3⟩ := best_ok area ii C C.length (Nat.le_refl _) c (by simpa using c1) hfc
  have hq : q ∈ C := List.mem_iff_getElem?.mpr ⟨j, (bestN_get q1).2⟩
  obtain ⟨i', p', e1, e2, e3⟩ := best_ok area ii l l.length (Nat.le_refl _) q (by simpa using (hC.mem q hq).1) q2
  rw [h] at e1
  cases e1
  refine ⟨j, q, q1, ?_, ?_⟩ <;> (unfold btP at *; omega)
end Go.AM.Ytcfijihoepkgeaa
