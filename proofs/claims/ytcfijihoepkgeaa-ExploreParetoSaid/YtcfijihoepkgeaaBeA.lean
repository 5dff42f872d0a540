/- Contracts: Best and its reference. -/
import Derived.Test.YtcfijihoepkgeaaPaB
set_option linter.unusedVariables false
set_option linter.unusedSimpArgs false
namespace Go.AM.Ytcfijihoepkgeaa
open Go Go.AM
set_option maxRecDepth 100000
set_option maxHeartbeats 0
theorem p37 : pu 37 = true := by decide
theorem p38 : pu 38 = true := by decide
def or4 (a b c d : Int) : Int := if a = 0 then (if b = 0 then (if c = 0 then d else c) else b) else a
theorem d35' (k : Nat) (a b c d : Int) : callF tbl pu (k + 7) 35 [.tsl 1 [[.int .i64 a], [.int .i64 b], [.int .i64 c], [.int .i64 d]]] [] = some (.int .i64 (or4 a b c d), [], false) := by
  rw [callF_eq tbl35, Ytcfijihoepkgeaa.c35]
  unfold or4
  by_cases h1 : a = 0
  · by_cases h2 : b = 0
    · by_cases h3 : c = 0
      · by_cases h4 : d = 0
        · simp [execC_loop, c35_b0, h1, h2, h3, h4]
        · simp [execC_loop, c35_b0, h1, h2, h3, h4]
      · simp [execC_loop, c35_b0, h1, h2, h3]
    · simp [execC_loop, c35_b0, h1, h2]
  · simp [execC_loop, c35_b0, h1]
def cmp4 (p q : Pt) : Int := or4 (cmpI p.cy q.cy) (cmpI p.ar q.ar) (cmpI p.ii q.ii) (cmpI p.ix q.ix)
theorem d37 (k : Nat) (p q : Pt) : callF tbl pu (k + 8) 37 [.agg p.vs, .agg q.vs] [] = some (.int .i64 (cmp4 p q), [], false) := by
  rw [callF_eq tbl37, Ytcfijihoepkgeaa.c37]
  have h36 := fun a b => d36 (k + 5) a b
  have h35 := fun a b c d => d35' k a b c d
  unfold cmp4 Pt.vs
  simp [callV_pure, p36, p35, h36, h35, c37_r0, c37_a0]
/-- better: by cycles, area, interval, index -/
def btP (p q : Pt) : Prop := p.cy < q.cy ∨ p.cy = q.cy ∧ (p.ar < q.ar ∨ p.ar = q.ar ∧ (p.ii < q.ii ∨ p.ii = q.ii ∧ p.ix < q.ix))
instance (p q : Pt) : Decidable (btP p q) := by unfold btP; infer_instance
theorem cmpI_neg {a b : Int} (h : a < b) : cmpI a b = -1 := by simp [cmpI, h]
theorem cmpI_pos {a b : Int} (h : b < a) : cmpI a b = 1 := by simp [cmpI, h]; omega
theorem cmpI_eq (a : Int) : cmpI a a = 0 := by simp [cmpI]
theorem cmp4_neg (p q : Pt) : cmp4 p q < 0 ↔ btP p q := by
  unfold cmp4 btP
  rcases Int.lt_trichotomy p.cy q.cy with h1 | h1 | h1
  · simp [cmpI_neg h1, or4, h1]
  · rw [h1, cmpI_eq]
    rcases Int.lt_trichotomy p.ar q.ar with h2 | h2 | h2
    · simp [cmpI_neg h2, or4, h2]
    · rw [h2, cmpI_eq]
      rcases Int.lt_trichotomy p.ii q.ii with h3 | h3 | h3
      · simp [cmpI_neg h3, or4, h3]
      · rw [h3, cmpI_eq]
        rcases Int.lt_trichotomy p.ix q.ix with h4 | h4 | h4
        · simp [cmpI_neg h4, or4, h4]
        · rw [h4, cmpI_eq]; simp [or4]
        · simp [cmpI_pos h4, or4]; omega
      · simp [cmpI_pos h3, or4]; omega
    · simp [cmpI_pos h2, or4]; omega
  · simp [cmpI_pos h1, or4]; omega
theorem d38 (k : Nat) (p q : Pt) : callF tbl pu (k + 1) 38 [.agg p.vs, .agg q.vs] [] = some (.bool (decide (btP p q)), [], false) := by
  rw [callF_eq tbl38, Ytcfijihoepkgeaa.c38]
  unfold btP Pt.vs
  by_cases h1 : p.cy = q.cy
  · by_cases h2 : p.ar = q.ar
    · by_cases h3 : p.ii = q.ii
      · simp [h1, h2, h3]
      · simp [h1, h2, h3]
    · simp [h1, h2]
  · simp [h1]
/-- within the limits -/
def feP (area ii : Int) (p : Pt) : Prop := p.ar ≤ area ∧ p.ii ≤ ii
instance (area ii : Int) (p : Pt) : Decidable (feP area ii p) := by unfold feP; infer_instance
def stepB (area ii : Int) (o : Option (Nat × Pt)) (j : Nat) (p : Pt) : Option (Nat × Pt) :=
  if feP area ii p then (match o with | none => some (j, p) | some (i, q) => if btP p q then some (j, p) else some (i, q)) else o
def bestN (area ii : Int) (l : List Pt) : Nat → Option (Nat × Pt)
  | 0 => none
  | j + 1 => match l[j]? with
    | some p => stepB area ii (bestN area ii l j) j p
    | none => bestN area ii l j
def zP : Pt := ⟨0, 0, 0, 0⟩
def ptO : Option (Nat × Pt) → Pt
  | none => zP
  | some (_, p) => p
def ixO : Option (Nat × Pt) → Int
  | none => -1
  | some (i, _) => i
def T16 (v : V) (area ii : Int) (n j : Nat) (p : Pt) (b : Bool) (d : Bool) : St :=
  ⟨[.undef, .int .i64 area, .int .i64 ii, .undef, .undef, .undef, .ptr 0 1 0 0, .undef, .fn 37 [], .ptr 1 1 0 0, .bool b, .undef, .undef, v, .int .i64 n, .int .i64 j] ++ List.replicate 28 .undef, [bx zP, bx p], d⟩
theorem s16 (k : Nat) (es : List (List V)) (n j : Nat) (area ii : Int) (p q : Pt) (b d : Bool) (hn : es.length = n) (hy : es[j]? = some p.vs) (hj : j < n) (hb : n ≤ 100000) :
    kNext (tidy [1, 2, 6, 8, 9, 10, 13, 14, 15] 0) (execC (callF tbl pu (k + 8)) pu 0 (k + 8) c16_b0 (T16 (.tsl 4 es) area ii n j q b d)) = some (if feP area ii p ∧ (b = false ∨ btP p q) then T16 (.tsl 4 es) area ii n (j + 1) p true true else T16 (.tsl 4 es) area ii n (j + 1) q b true) := by
  have wj : IntKind.i64.wrap ((j : Int) + 1) = (j : Int) + 1 := wrap64 (by omega) (by omega)
  have h37 := d37 k p q
  have hc := cmp4_neg p q
  subst hn
  rw [List.getElem?_eq_getElem hj, Option.some_inj] at hy
  unfold feP
  by_cases f1 : p.ar ≤ area
  · by_cases f2 : p.ii ≤ ii
    · cases b with
      | false =>
        rw [if_pos ⟨⟨f1, f2⟩, Or.inl rfl⟩]
        unfold T16 bx Pt.vs at *
        simp [c16_b0, hj, hy, wj, f1, f2]
      | true =>
        by_cases hbt : btP p q
        · rw [if_pos ⟨⟨f1, f2⟩, Or.inr hbt⟩]
          have hc := hc.mpr hbt
          unfold T16 bx Pt.vs at *
          simp [c16_b0, hj, hy, wj, f1, f2, callV_pure, p37, h37, hc]
        · rw [if_neg (by simp [hbt])]
          have hc := mt hc.mp hbt
          unfold T16 bx Pt.vs at *
          simp [c16_b0, hj, hy, wj, f1, f2, callV_pure, p37, h37, hc]
    · rw [if_neg (by simp [f2])]
      unfold T16 bx Pt.vs at *
      simp [c16_b0, hj, hy, wj, f1, f2]
  · rw [if_neg (by simp [f1])]
    unfold T16 bx Pt.vs at *
    simp [c16_b0, hj, hy, wj, f1]
theorem bestN_get {area ii : Int} {l : List Pt} : ∀ {j i : Nat} {p : Pt}, bestN area ii l j = some (i, p) → i < j ∧ l[i]? = some p
  | j + 1, i, p, h => by
    simp only [bestN] at h
    cases hy : l[j]? with
    | none =>
      rw [hy] at h
      have := bestN_get h
      exact ⟨by omega, this.2⟩
    | some q =>
      rw [hy] at h
      simp only [stepB] at h
      split at h
      · split at h
        · cases h; exact ⟨by omega, hy⟩
        · rename_i i' q' hb
          split at h
          · cases h; exact ⟨by omega, hy⟩
          · cases h
            have := bestN_get hb
            exact ⟨by omega, this.2⟩
      · have := bestN_get h
        exact ⟨by omega, this.2⟩
theorem d16 (k : Nat) (l : List Pt) (area ii : Int) (hb : l.length ≤ 60) : ∃ d, callF tbl pu (k + 100) 16 [.tsl 4 (vsL l), .int .i64 area, .int .i64 ii] [] =
    some (.tup [.agg (ptO (bestN area ii l l.length)).vs, .bool (bestN area ii l l.length).isSome], [], d) := by
  refine ⟨true, ?_⟩
  rw [callF_eq tbl16, Ytcfijihoepkgeaa.c16]
  simp [execC_loop, -kIter_succ, -tidy, vsL_length]
  rw [iter_to (fun j => T16 (.tsl 4 (vsL l)) area ii l.length j (ptO (bestN area ii l j)) (bestN area ii l j).isSome (j != 0)) l.length
    (r := (.exit 0, ⟨(T16 (.tsl 4 (vsL l)) area ii l.length l.length (ptO (bestN area ii l l.length)) (bestN area ii l l.length).isSome (l.length != 0)).fr.set 16 (.bool false), [bx zP, bx (ptO (bestN area ii l l.length))], l.length != 0⟩)) ?h0 (by omega) ?hs ?he (by simp)]
  case h0 => simp [T16, bestN, ptO, bx, Pt.vs, zP]
  case he => simp [T16, c16_b0]
  case hs =>
    intro j hj
    have hy : l[j]? = some l[j] := List.getElem?_eq_getElem hj
    have := s16 (k + 91) (vsL l) l.length j area ii l[j] (ptO (bestN area ii l j)) (bestN area ii l j).isSome (j != 0) (vsL_length l) (vsL_get hy) hj (by omega)
    rw [this]
    simp only [bestN, hy, stepB]
    by_cases hf : feP area ii l[j]
    · cases hB : bestN area ii l j with
      | none => simp [hf, ptO]
      | some q =>
        obtain ⟨i, q⟩ := q
        by_cases hbt : btP l[j] q
        · simp [hf, ptO, hbt]
        · simp [hf, ptO, hbt]
    · simp [hf]
  unfold bx Pt.vs
  simp [T16]
def T17 (v : V) (area ii : Int) (n j : Nat) (best : Int) (d : Bool) : St :=
  ⟨[v, .int .i64 area, .int .i64 ii, .undef, .undef, .undef, .undef, .int .i64 best, .undef, .undef, .undef, .int .i64 n, .int .i64 j] ++ List.replicate 29 .undef, [], d⟩
theorem s17 (k : Nat) (es : List (List V)) (n j : Nat) (area ii : Int) (p : Pt) (o : Option (Nat × Pt)) (d : Bool) (hn : es.length = n) (hy : es[j]? = some p.vs) (hj : j < n) (hb : n ≤ 100000) (ho : ∀ i q, o = some (i, q) → i < n ∧ es[i]? = some q.vs) :
    kNext (tidy [0, 1, 2, 7, 11, 12] 0) (execC (callF tbl pu (k + 1)) pu 0 (k + 1) c17_b0 (T17 (.tsl 4 es) area ii n j (ixO o) d)) = some (T17 (.tsl 4 es) area ii n (j + 1) (ixO (stepB area ii o j p)) true) := by
  have wj : IntKind.i64.wrap ((j : Int) + 1) = (j : Int) + 1 := wrap64 (by omega) (by omega)
  subst hn
  rw [List.getElem?_eq_getElem hj, Option.some_inj] at hy
  unfold stepB
  by_cases f1 : p.ar ≤ area
  · have f1' : ¬ area < p.ar := by omega
    by_cases f2 : p.ii ≤ ii
    · have f2' : ¬ ii < p.ii := by omega
      rw [if_pos (show feP area ii p from ⟨f1, f2⟩)]
      cases o with
      | none =>
        unfold T17 Pt.vs ixO at *
        simp [c17_b0, c17_r0, c17_a0, hj, hy, wj, f1', f2']
      | some o =>
        obtain ⟨i, q⟩ := o
        obtain ⟨hi, hq⟩ := ho i q rfl
        rw [List.getElem?_eq_getElem hi, Option.some_inj] at hq
        have h38 := d38 k p q
        have hi' : ¬ (i : Int) < 0 := by omega
        by_cases hbt : btP p q
        · simp only [if_pos hbt, ixO]
          unfold T17 Pt.vs at *
          simp [c17_b0, c17_r0, c17_a0, hj, hy, wj, f1', f2', callV_pure, p38, h38, hbt, hi, hq]
        · simp only [if_neg hbt, ixO]
          unfold T17 Pt.vs at *
          simp [c17_b0, c17_r0, c17_a0, hj, hy, wj, f1', f2', callV_pure, p38, h38, hbt, hi, hq]
    · have f2' : ii < p.ii := by omega
      rw [if_neg (show ¬ feP area ii p from fun h => f2 h.2)]
      unfold T17 Pt.vs at *
      simp [c17_b0, c17_r0, c17_a0, hj, hy, wj, f1', f2']
  · have f1' : area < p.ar := by omega
    rw [if_neg (show ¬ feP area ii p from fun h => f1 h.1)]
    unfold T17 Pt.vs at *
    simp [c17_b0, c17_r0, c17_a0, hj, hy, wj, f1']
theorem d17 (k : Nat) (l : List Pt) (area ii : Int) (hb : l.length ≤ 60) : ∃ d, callF tbl pu (k + 100) 17 [.tsl 4 (vsL l), .int .i64 area, .int .i64 ii] [] =
    some (.int .i64 (ixO (bestN area ii l l.length)), [], d) := by
  refine ⟨l.length != 0, ?_⟩
  rw [callF_eq tbl17, Ytcfijihoepkgeaa.c17]
  simp [execC_loop, -kIter_succ, -tidy, vsL_length]
  rw [iter_to (fun j => T17 (.tsl 4 (vsL l)) area ii l.length j (ixO (bestN area ii l j)) (j != 0)) l.length
    (r := (.exit 0, ⟨(T17 (.tsl 4 (vsL l)) area ii l.length l.length (ixO (bestN area ii l l.length)) (l.length != 0)).fr.set 13 (.bool false), [], l.length != 0⟩)) ?h0 (by omega) ?hs ?he (by simp)]
  case h0 => simp [T17, bestN, ixO]
  case he => simp [T17, c17_b0]
  case hs =>
    intro j hj
    have hy : l[j]? = some l[j] := List.getElem?_eq_getElem hj
    have := s17 (k + 98) (vsL l) l.length j area ii l[j] (bestN area ii l j) (j != 0) (vsL_length l) (vsL_get hy) hj (by omega) (by
      intro i q h
      have := bestN_get h
      exact ⟨by omega, vsL_get this.2⟩)
    rw [this]
    simp only [bestN, hy]
    rfl
  simp [T17]
end Go.AM.Ytcfijihoepkgeaa
