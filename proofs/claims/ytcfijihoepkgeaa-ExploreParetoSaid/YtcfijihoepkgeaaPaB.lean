/- Pareto's rounds. -/
import Derived.Test.YtcfijihoepkgeaaPaA
set_option linter.unusedVariables false
set_option linter.unusedSimpArgs false
namespace Go.AM.Ytcfijihoepkgeaa
open Go Go.AM
set_option maxRecDepth 100000
set_option maxHeartbeats 0
def T13 (v out : V) (H : Heap) (n j : Nat) (d : Bool) : St := ⟨[v, .undef, .undef, out, .undef, .undef, .undef, v, .int .i64 n, .int .i64 j] ++ List.replicate 31 .undef, H, d⟩
theorem a13 (k : Nat) (es : List (List V)) (n j : Nat) (p : Pt) (d : Bool) (hn : es.length = n) (hy : es[j]? = some p.vs) (hj : j < n) (hb : n ≤ 100000)
    (h : callF tbl pu k 28 [.tsl 4 es, .fn 29 [.ptr 0 1 0 0]] [bx p] = some (.bool true, [bx p], false)) :
    kNext (tidy [0, 3, 7, 8, 9] 0) (execC (callF tbl pu k) pu 0 k c13_b0 (T13 (.tsl 4 es) .nils [] n j d)) = some (T13 (.tsl 4 es) .nils [] n (j + 1) true) := by
  have wj : IntKind.i64.wrap ((j : Int) + 1) = (j : Int) + 1 := wrap64 (by omega) (by omega)
  subst hn
  rw [List.getElem?_eq_getElem hj, Option.some_inj] at hy
  unfold bx Pt.vs at *
  simp [T13, c13_b0, hj, hy, callV, p28, h, wj, backG, renH]
theorem b13 (k : Nat) (es os : List (List V)) (n m j : Nat) (p : Pt) (d : Bool) (hn : es.length = n) (hy : es[j]? = some p.vs) (hj : j < n) (hb : n ≤ 100000) (hm : os.length = m)
    (h : callF tbl pu k 28 [.tsl 4 es, .fn 29 [.ptr 0 1 0 0]] [bx p] = some (.bool true, [bx p], false)) :
    kNext (tidy [0, 3, 7, 8, 9] 0) (execC (callF tbl pu k) pu 0 k c13_b0 (T13 (.tsl 4 es) (.sl 4 0 m 0 m) [⟨4, os, 0, false, true⟩] n j d)) = some (T13 (.tsl 4 es) (.sl 4 0 m 0 m) [⟨4, os, 0, false, true⟩] n (j + 1) true) := by
  have wj : IntKind.i64.wrap ((j : Int) + 1) = (j : Int) + 1 := wrap64 (by omega) (by omega)
  subst hn
  rw [List.getElem?_eq_getElem hj, Option.some_inj] at hy
  unfold bx Pt.vs at *
  simp [T13, c13_b0, hj, hy, callV, p28, h, wj, backG, renH]
theorem c13n (k : Nat) (es : List (List V)) (n j : Nat) (p : Pt) (d : Bool) (hn : es.length = n) (hy : es[j]? = some p.vs) (hj : j < n) (hb : n ≤ 100000)
    (h : callF tbl pu k 28 [.tsl 4 es, .fn 29 [.ptr 0 1 0 0]] [bx p] = some (.bool false, [bx p], false))
    (h2 : callF tbl pu k 30 [.nils, .fn 31 [.ptr 0 1 0 0]] [bx p] = some (.int .i64 (-1), [bx p], false)) :
    kNext (tidy [0, 3, 7, 8, 9] 0) (execC (callF tbl pu k) pu 0 k c13_b0 (T13 (.tsl 4 es) .nils [] n j d)) = some (T13 (.tsl 4 es) (.sl 4 0 1 0 1) [⟨4, [p.vs], 0, false, true⟩] n (j + 1) true) := by
  have wj : IntKind.i64.wrap ((j : Int) + 1) = (j : Int) + 1 := wrap64 (by omega) (by omega)
  subst hn
  rw [List.getElem?_eq_getElem hj, Option.some_inj] at hy
  unfold bx Pt.vs at *
  simp [T13, c13_b0, hj, hy, callV, p28, p30, h, h2, wj, backG, renH, appV, elemsOf, roomB]
theorem d13 (k : Nat) (es os os' : List (List V)) (n m j : Nat) (p : Pt) (d : Bool) (hn : es.length = n) (hy : es[j]? = some p.vs) (hj : j < n) (hb : n ≤ 100000) (hm : os.length = m) (hm2 : m ≤ 100000) (ho : os ++ [p.vs] = os') (hL : os'.length = m + 1)
    (h : callF tbl pu k 28 [.tsl 4 es, .fn 29 [.ptr 0 1 0 0]] [bx p] = some (.bool false, [bx p], false))
    (h2 : callF tbl pu k 30 [.sl 4 0 m 0 m, .fn 31 [.ptr 1 1 0 0]] [⟨4, os, 0, false, true⟩, bx p] = some (.int .i64 (-1), [⟨4, os, 0, false, true⟩, bx p], false)) :
    kNext (tidy [0, 3, 7, 8, 9] 0) (execC (callF tbl pu k) pu 0 k c13_b0 (T13 (.tsl 4 es) (.sl 4 0 m 0 m) [⟨4, os, 0, false, true⟩] n j d)) = some (T13 (.tsl 4 es) (.sl 4 0 (m + 1) 0 (m + 1)) [⟨4, os', 0, false, true⟩] n (j + 1) true) := by
  have wj : IntKind.i64.wrap ((j : Int) + 1) = (j : Int) + 1 := wrap64 (by omega) (by omega)
  have r1 : (m + 1) * 32 ≤ 140737488351232 := by omega
  have r2 : m + 1 ≤ 140737488351232 := by omega
  have lg : ¬ m + 1 ≤ m := by omega
  have tk : os.take m = os := List.take_of_length_le (by omega)
  have dr : os.drop (m + 1) = [] := List.drop_eq_nil_of_le (by omega)
  subst hn
  rw [List.getElem?_eq_getElem hj, Option.some_inj] at hy
  unfold bx Pt.vs at *
  simp [T13, c13_b0, hj, hy, callV, p28, p30, h, h2, wj, backG, renH, appV, elemsOf, roomB, hm, r1, r2, lg, tk, dr, ho, hL]
theorem e13 (k : Nat) (es os : List (List V)) (n m j i : Nat) (p q : Pt) (d : Bool) (hn : es.length = n) (hy : es[j]? = some p.vs) (hj : j < n) (hb : n ≤ 100000) (hm : os.length = m) (hi : i < m) (hq : os[i]? = some q.vs) (hc : ¬ p.ix < q.ix)
    (h : callF tbl pu k 28 [.tsl 4 es, .fn 29 [.ptr 0 1 0 0]] [bx p] = some (.bool false, [bx p], false))
    (h2 : callF tbl pu k 30 [.sl 4 0 m 0 m, .fn 31 [.ptr 1 1 0 0]] [⟨4, os, 0, false, true⟩, bx p] = some (.int .i64 i, [⟨4, os, 0, false, true⟩, bx p], false)) :
    kNext (tidy [0, 3, 7, 8, 9] 0) (execC (callF tbl pu k) pu 0 k c13_b0 (T13 (.tsl 4 es) (.sl 4 0 m 0 m) [⟨4, os, 0, false, true⟩] n j d)) = some (T13 (.tsl 4 es) (.sl 4 0 m 0 m) [⟨4, os, 0, false, true⟩] n (j + 1) true) := by
  have wj : IntKind.i64.wrap ((j : Int) + 1) = (j : Int) + 1 := wrap64 (by omega) (by omega)
  subst hn hm
  rw [List.getElem?_eq_getElem hj, Option.some_inj] at hy
  rw [List.getElem?_eq_getElem hi, Option.some_inj] at hq
  unfold bx Pt.vs at *
  simp [T13, c13_b0, c13_r0, c13_a0, hj, hy, callV, p28, p30, h, h2, wj, backG, renH, hi, hq, hc]
theorem f13 (k : Nat) (es os : List (List V)) (n m j i : Nat) (p q : Pt) (d : Bool) (hn : es.length = n) (hy : es[j]? = some p.vs) (hj : j < n) (hb : n ≤ 100000) (hm : os.length = m) (hi : i < m) (hq : os[i]? = some q.vs) (hc : p.ix < q.ix)
    (h : callF tbl pu k 28 [.tsl 4 es, .fn 29 [.ptr 0 1 0 0]] [bx p] = some (.bool false, [bx p], false))
    (h2 : callF tbl pu k 30 [.sl 4 0 m 0 m, .fn 31 [.ptr 1 1 0 0]] [⟨4, os, 0, false, true⟩, bx p] = some (.int .i64 i, [⟨4, os, 0, false, true⟩, bx p], false)) :
    kNext (tidy [0, 3, 7, 8, 9] 0) (execC (callF tbl pu k) pu 0 k c13_b0 (T13 (.tsl 4 es) (.sl 4 0 m 0 m) [⟨4, os, 0, false, true⟩] n j d)) = some (T13 (.tsl 4 es) (.sl 4 0 m 0 m) [⟨4, os.set i p.vs, 0, false, true⟩] n (j + 1) true) := by
  have wj : IntKind.i64.wrap ((j : Int) + 1) = (j : Int) + 1 := wrap64 (by omega) (by omega)
  subst hn hm
  rw [List.getElem?_eq_getElem hj, Option.some_inj] at hy
  rw [List.getElem?_eq_getElem hi, Option.some_inj] at hq
  unfold bx Pt.vs at *
  simp [T13, c13_b0, c13_r0, c13_a0, hj, hy, callV, p28, p30, h, h2, wj, backG, renH, hi, hq, hc, freeze_nil]
/-- what a round makes of the list -/
def stepP (l o : List Pt) (p : Pt) : List Pt :=
  if l.any fun y => domP y p then o else match o.findIdx? fun y => eqP p y with
    | some i => (match o[i]? with | some q => if p.ix < q.ix then o.set i p else o | none => o)
    | none => o ++ [p]
def oV : List Pt → V
  | [] => .nils
  | o => .sl 4 0 o.length 0 o.length
def oH : List Pt → Heap
  | [] => []
  | o => [bk o]
theorem oV_ne {o : List Pt} (h : o ≠ []) : oV o = .sl 4 0 o.length 0 o.length := by cases o with | nil => exact absurd rfl h | cons a o => rfl
theorem oH_ne {o : List Pt} (h : o ≠ []) : oH o = [bk o] := by cases o with | nil => exact absurd rfl h | cons a o => rfl
theorem s13 (k : Nat) (l o : List Pt) (j : Nat) (p : Pt) (d : Bool) (hy : l[j]? = some p) (hb : l.length ≤ 100000) (ho : o.length ≤ 100000) (hk : l.length ≤ k) (hk2 : o.length ≤ k) :
    kNext (tidy [0, 3, 7, 8, 9] 0) (execC (callF tbl pu (k + 5)) pu 0 (k + 5) c13_b0 (T13 (.tsl 4 (vsL l)) (oV o) (oH o) l.length j d)) = some (T13 (.tsl 4 (vsL l)) (oV (stepP l o p)) (oH (stepP l o p)) l.length (j + 1) true) := by
  have hj : j < l.length := (List.getElem?_eq_some_iff.mp hy).1
  have h28 := d28 k l p hb hk
  unfold stepP
  cases hd : l.any fun y => domP y p with
  | true =>
    rw [hd] at h28
    rw [if_pos rfl]
    cases o with
    | nil => exact a13 (k + 5) _ _ _ p d (vsL_length l) (vsL_get hy) hj hb h28
    | cons a o => exact b13 (k + 5) _ _ _ _ _ p d (vsL_length l) (vsL_get hy) hj hb (vsL_length _) h28
  | false =>
    rw [hd] at h28
    rw [if_neg (by simp)]
    cases o with
    | nil =>
      have h30 := d30n (k + 1) p
      have := c13n (k + 5) _ _ _ p d (vsL_length l) (vsL_get hy) hj hb h28 h30
      simpa [oV, oH, bk, vsL] using this
    | cons a o =>
      have h30 := d30b (k + 1) (a :: o) p ho (by omega)
      unfold idxI at h30
      generalize ho' : a :: o = o' at *
      have hne : o' ≠ [] := by rw [← ho']; simp
      rw [oV_ne hne, oH_ne hne]
      cases hf : List.findIdx? (fun y => eqP p y) o' with
      | none =>
        rw [hf] at h30
        have hne2 : o' ++ [p] ≠ [] := by simp
        show _ = some (T13 _ (oV (o' ++ [p])) (oH (o' ++ [p])) _ _ _)
        rw [oV_ne hne2, oH_ne hne2]
        have := d13 (k + 5) (vsL l) (vsL o') (vsL (o' ++ [p])) l.length o'.length j p d (vsL_length l) (vsL_get hy) hj hb (vsL_length _) ho (by simp [vsL]) (by rw [vsL_length]; simp) h28 h30
        simpa [bk] using this
      | some i =>
        rw [hf] at h30
        have hi : i < o'.length := by
          have := List.findIdx?_eq_some_iff_getElem.mp hf
          exact this.1
        have hq : o'[i]? = some o'[i] := List.getElem?_eq_getElem hi
        show _ = some (T13 _ (oV (match o'[i]? with | some q => if p.ix < q.ix then o'.set i p else o' | none => o')) (oH (match o'[i]? with | some q => if p.ix < q.ix then o'.set i p else o' | none => o')) _ _ _)
        rw [hq]
        show _ = some (T13 _ (oV (if p.ix < o'[i].ix then o'.set i p else o')) (oH (if p.ix < o'[i].ix then o'.set i p else o')) _ _ _)
        by_cases hc : p.ix < o'[i].ix
        · rw [if_pos hc]
          have hne2 : o'.set i p ≠ [] := by simp [hne]
          rw [oV_ne hne2, oH_ne hne2]
          have := f13 (k + 5) (vsL l) (vsL o') l.length o'.length j i p o'[i] d (vsL_length l) (vsL_get hy) hj hb (vsL_length _) hi (vsL_get hq) hc h28 h30
          rw [vsL_set] at this
          simpa [bk] using this
        · rw [if_neg hc, oV_ne hne, oH_ne hne]
          exact e13 (k + 5) (vsL l) (vsL o') l.length o'.length j i p o'[i] d (vsL_length l) (vsL_get hy) hj hb (vsL_length _) hi (vsL_get hq) hc h28 h30
theorem stepP_len (l o : List Pt) (p : Pt) : (stepP l o p).length ≤ o.length + 1 := by
  unfold stepP
  split
  · omega
  · split
    · split
      · split <;> simp
      · omega
    · simp
theorem e13x (call : CallT) (k : Nat) (v out : V) (H : Heap) (n : Nat) (d : Bool) : execC call pu 0 k c13_b0 (T13 v out H n n d) = some (.exit 0, ⟨(T13 v out H n n d).fr.set 10 (.bool false), H, d⟩) := by
  simp [T13, c13_b0]
theorem l13 (k : Nat) (l : List Pt) (hb : l.length ≤ 60) (hk : l.length ≤ k) : ∀ (R D o : List Pt) (M : Nat) (d : Bool), l = D ++ R → o.length ≤ D.length → R.length < M → (D = [] ∨ d = true) →
    (R.foldl (stepP l) o).length ≤ l.length ∧ ∀ s, tidy [0, 3, 7, 8, 9] 0 s = some (T13 (.tsl 4 (vsL l)) (oV o) (oH o) l.length D.length d) →
      ∃ d', iter (tidy [0, 3, 7, 8, 9] 0) (execC (callF tbl pu (k + 5)) pu 0 (k + 5) c13_b0) M s =
        some (.exit 0, ⟨(T13 (.tsl 4 (vsL l)) (oV (R.foldl (stepP l) o)) (oH (R.foldl (stepP l) o)) l.length l.length d').fr.set 10 (.bool false), oH (R.foldl (stepP l) o), d'⟩)
  | [], D, o, M + 1, d, hl, ho, hM, hd => by
    have hl : l = D := by simpa using hl
    rw [List.foldl_nil]
    refine ⟨by rw [hl]; exact ho, fun s h => ?_⟩
    rw [show D.length = l.length by rw [hl]] at h
    exact ⟨d, iter_end h (e13x _ _ _ _ _ _ _) (by simp)⟩
  | p :: R, D, o, M + 1, d, hl, ho, hM, hd => by
    have hy : l[D.length]? = some p := by rw [hl]; simp
    have hD : D.length ≤ l.length := by rw [hl]; simp
    have hst := s13 k l o D.length p d hy (by omega) (by omega) hk (by omega)
    have := stepP_len l o p
    obtain ⟨r1, r2⟩ := l13 k l hb hk R (D ++ [p]) (stepP l o p) M true (by rw [hl]; simp) (by simp; omega) (by simpa using hM) (Or.inr rfl)
    rw [List.foldl_cons]
    refine ⟨r1, fun s h => ?_⟩
    obtain ⟨s', h1, h2⟩ := kNext_some hst
    obtain ⟨d', hd'⟩ := r2 s' (by rw [h2]; simp)
    refine ⟨d', iter_go h hst fun s'' hs'' => ?_⟩
    rw [← hd']
    cases M with
    | zero => rfl
    | succ M => simp only [iter, h2, hs'']
def parL (l : List Pt) : List Pt := l.foldl (stepP l) []
theorem p33 : pu 33 = false := by decide
/-- Pareto: some ordering of the list that its rounds make -/
theorem dPar (k : Nat) (l : List Pt) (hb : l.length ≤ 60) : ∃ C d, C.Perm (parL l) ∧ Srt C ∧ callF tbl pu (k + 300) 13 [.tsl 4 (vsL l)] [] = some (oV C, oH C, d) := by
  obtain ⟨r1, r2⟩ := l13 (k + 294) l hb (by omega) l [] [] (k + 299) false (by simp) (by simp) (by omega) (Or.inl rfl)
  change (parL l).length ≤ l.length at r1
  obtain ⟨C, dd, h1, h2, h3, h4⟩ := d33 (k + 98) (parL l) (by omega)
  have hlen := h1.length_eq
  have r2' := fun s hs => r2 s hs
  obtain ⟨d', hd'⟩ := r2 ⟨[.tsl 4 (vsL l), .undef, .nils, .nils, .undef, .undef, .undef, .tsl 4 (vsL l), .int .i64 l.length, .int .i64 0] ++ List.replicate 31 .undef, [], false⟩ (by simp [T13, oV, oH])
  simp only [List.replicate, List.append, List.cons_append, List.nil_append] at hd'
  change iter _ _ _ _ = some (.exit 0, ⟨(T13 _ (oV (parL l)) (oH (parL l)) _ _ _).fr.set 10 _, oH (parL l), _⟩) at hd'
  by_cases hne : parL l = []
  · rw [hne] at hd' h1
    have hC : C = [] := List.Perm.eq_nil h1
    subst hC
    have h33 := d33n (k + 289)
    refine ⟨[], d', by rw [hne], List.Pairwise.nil, ?_⟩
    rw [callF_eq tbl13, Ytcfijihoepkgeaa.c13]
    simp [execC_loop, -kIter_succ, -tidy, vsL_length]
    rw [hd']
    simp [T13, oV, oH, callV, p33, h33, renH, backG]
  · have hC : C ≠ [] := by intro h; subst h; simp at hlen; exact hne (List.eq_nil_of_length_eq_zero hlen.symm)
    rw [oV_ne hne, oH_ne hne] at hd'
    refine ⟨C, d' || dd, h1, h2, ?_⟩
    rw [oV_ne hC, oH_ne hC, hlen]
    rw [callF_eq tbl13, Ytcfijihoepkgeaa.c13]
    simp [execC_loop, -kIter_succ, -tidy, vsL_length]
    rw [hd']
    simp [T13, callV_bk, p33, h4, kcall, h3]
end Go.AM.Ytcfijihoepkgeaa
