/- The reference's Pareto set: its rounds. -/
import Derived.Test.YtcfijihoepkgeaaCovA
set_option linter.unusedVariables false
set_option linter.unusedSimpArgs false
namespace Go.AM.Ytcfijihoepkgeaa
open Go Go.AM
set_option maxRecDepth 100000
set_option maxHeartbeats 0
def condP (x y : Pt) (k i : Nat) : Bool := domP x y || (eqP x y && (decide (x.ix < y.ix) || (decide (x.ix = y.ix) && decide (k < i))))
def T14 (ls : List (List V)) (out : V) (H : Heap) (n i : Nat) (d : Bool) : St := ⟨[.tsl 4 ls, .undef, .undef, out, .undef, .undef, .undef, .undef, .undef, .int .i64 n, .int .i64 i, .undef, .undef, .undef, .undef, .undef, .undef, .undef, .undef, .undef, .undef, .undef, .undef, .undef, .undef, .undef, .undef, .undef, .undef, .undef, .undef, .undef, .undef, .undef, .undef, .undef, .undef, .undef, .undef, .undef, .undef, .undef, .undef, .undef, .undef, .undef, .undef, .undef, .undef, .undef, .undef, .undef, .undef, .undef, .undef, .undef, .undef, .undef, .undef, .undef, .undef, .undef, .undef, .undef, .undef, .undef, .undef, .undef, .undef, .undef, .undef, .undef, .undef, .undef, .undef, .undef, .undef, .undef, .undef, .undef, .undef, .undef, .undef, .undef, .undef, .undef, .undef, .undef, .undef, .undef, .undef, .undef, .undef, .undef, .undef, .undef, .undef, .undef, .undef, .undef, .undef, .undef, .undef, .undef, .undef], H, d⟩
def K14 (ls : List (List V)) (out : V) (H : Heap) (n i k : Nat) (c d : Bool) : St := ⟨[.tsl 4 ls, .undef, .undef, out, .int .i64 i, .bool c, .undef, .undef, .undef, .int .i64 n, .int .i64 i, .undef, .undef, .undef, .int .i64 n, .int .i64 k, .undef, .undef, .undef, .undef, .undef, .undef, .undef, .undef, .undef, .undef, .undef, .undef, .undef, .undef, .undef, .undef, .undef, .undef, .undef, .undef, .undef, .undef, .undef, .undef, .undef, .undef, .undef, .undef, .undef, .undef, .undef, .undef, .undef, .undef, .undef, .undef, .undef, .undef, .undef, .undef, .undef, .undef, .undef, .undef, .undef, .undef, .undef, .undef, .undef, .undef, .undef, .undef, .undef, .undef, .undef, .undef, .undef, .undef, .undef, .undef, .undef, .undef, .undef, .undef, .undef, .undef, .undef, .undef, .undef, .undef, .undef, .undef, .undef, .undef, .undef, .undef, .undef, .undef, .undef, .undef, .undef, .undef, .undef, .undef, .undef, .undef, .undef, .undef, .undef], H, d⟩
def W14 (ls : List (List V)) (out : V) (H : Heap) (n i t : Nat) (d : Bool) : St := ⟨[.tsl 4 ls, .undef, .undef, out, .int .i64 i, .undef, .undef, .int .i64 t, .undef, .int .i64 n, .int .i64 i, .undef, .undef, .undef, .undef, .undef, .undef, .undef, .undef, .undef, .undef, .undef, .undef, .undef, .undef, .undef, .undef, .undef, .undef, .undef, .undef, .undef, .undef, .undef, .undef, .undef, .undef, .undef, .undef, .undef, .undef, .undef, .undef, .undef, .undef, .undef, .undef, .undef, .undef, .undef, .undef, .undef, .undef, .undef, .undef, .undef, .undef, .undef, .undef, .undef, .undef, .undef, .undef, .undef, .undef, .undef, .undef, .undef, .undef, .undef, .undef, .undef, .undef, .undef, .undef, .undef, .undef, .undef, .undef, .undef, .undef, .undef, .undef, .undef, .undef, .undef, .undef, .undef, .undef, .undef, .undef, .undef, .undef, .undef, .undef, .undef, .undef, .undef, .undef, .undef, .undef, .undef, .undef, .undef, .undef], H, d⟩
def E14 (w : Nat → V) (ls : List (List V)) (out : V) (H : Heap) (n i t : Nat) (d : Bool) : St := ⟨[.tsl 4 ls, w 1, w 2, out, .int .i64 i, w 5, w 6, .int .i64 t, w 8, .int .i64 n, .int .i64 i, w 11, w 12, w 13, w 14, w 15, w 16, w 17, w 18, w 19, w 20, w 21, w 22, w 23, w 24, w 25, w 26, w 27, w 28, w 29, w 30, w 31, w 32, w 33, w 34, w 35, w 36, w 37, w 38, w 39, w 40, w 41, w 42, w 43, w 44, w 45, w 46, w 47, w 48, w 49, w 50, w 51, w 52, w 53, w 54, w 55, w 56, w 57, w 58, w 59, w 60, w 61, w 62, w 63, w 64, w 65, w 66, w 67, w 68, w 69, w 70, w 71, w 72, w 73, w 74, w 75, w 76, w 77, w 78, w 79, w 80, w 81, w 82, w 83, w 84, w 85, w 86, w 87, w 88, w 89, w 90, w 91, w 92, w 93, w 94, w 95, w 96, w 97, w 98, w 99, w 100, w 101, w 102, w 103, w 104], H, d⟩
theorem k14a (F : Nat) (ls : List (List V)) (n i k : Nat) (c d : Bool) (x y : Pt) (hls : ls.length = n) (hx : ls[k]? = some x.vs) (hy : ls[i]? = some y.vs) (hi : i < n) (hk : k < n) (hb : n ≤ 100000) :
    kNext (tidy [0, 3, 4, 5, 9, 10, 14, 15] 0) (execC (callF tbl pu (F + 2)) pu 0 (F + 2) c14_b1 (K14 ls .nils [] n i k c d)) = some (K14 ls .nils [] n i (k + 1) (c && !condP x y k i) d) := by
  have wk : IntKind.i64.wrap ((k : Int) + 1) = (k : Int) + 1 := wrap64 (by omega) (by omega)
  have h11 := d11 F x y
  have h15 := d15 (F + 1) x y
  subst hls
  rw [List.getElem?_eq_getElem hk, Option.some_inj] at hx
  rw [List.getElem?_eq_getElem hi, Option.some_inj] at hy
  unfold K14 condP Pt.vs at *
  cases h1 : domP x y with
  | true =>
    rw [h1] at h11
    simp [c14_b1, c14_r1, c14_a1, hk, hi, wk, hx, hy, callV_pure, p11, h11]
  | false =>
    rw [h1] at h11
    cases h2 : eqP x y with
    | false =>
      rw [h2] at h15
      simp [c14_b1, c14_r1, c14_a1, hk, hi, wk, hx, hy, callV_pure, p11, p15, h11, h15]
    | true =>
      rw [h2] at h15
      by_cases h3 : x.ix < y.ix
      · simp [c14_b1, c14_r1, c14_a1, hk, hi, wk, hx, hy, callV_pure, p11, p15, h11, h15, h3]
      · by_cases h4 : x.ix = y.ix
        · simp only [h4] at h11 h15 hx
          by_cases h5 : k < i
          · simp [c14_b1, c14_r1, c14_a1, hk, hi, wk, hx, hy, callV_pure, p11, p15, h11, h15, h4, h5]
          · simp [c14_b1, c14_r1, c14_a1, hk, hi, wk, hx, hy, callV_pure, p11, p15, h11, h15, h4, h5]
        · simp [c14_b1, c14_r1, c14_a1, hk, hi, wk, hx, hy, callV_pure, p11, p15, h11, h15, h3, h4]
theorem k14b (F : Nat) (ls : List (List V)) (n i k : Nat) (c d : Bool) (os : List (List V)) (m : Nat) (x y : Pt) (hls : ls.length = n) (hx : ls[k]? = some x.vs) (hy : ls[i]? = some y.vs) (hi : i < n) (hk : k < n) (hb : n ≤ 100000) :
    kNext (tidy [0, 3, 4, 5, 9, 10, 14, 15] 0) (execC (callF tbl pu (F + 2)) pu 0 (F + 2) c14_b1 (K14 ls (.sl 4 0 m 0 m) [⟨4, os, 0, false, true⟩] n i k c d)) = some (K14 ls (.sl 4 0 m 0 m) [⟨4, os, 0, false, true⟩] n i (k + 1) (c && !condP x y k i) d) := by
  have wk : IntKind.i64.wrap ((k : Int) + 1) = (k : Int) + 1 := wrap64 (by omega) (by omega)
  have h11 := d11 F x y
  have h15 := d15 (F + 1) x y
  subst hls
  rw [List.getElem?_eq_getElem hk, Option.some_inj] at hx
  rw [List.getElem?_eq_getElem hi, Option.some_inj] at hy
  unfold K14 condP Pt.vs at *
  cases h1 : domP x y with
  | true =>
    rw [h1] at h11
    simp [c14_b1, c14_r1, c14_a1, hk, hi, wk, hx, hy, callV_pure, p11, h11]
  | false =>
    rw [h1] at h11
    cases h2 : eqP x y with
    | false =>
      rw [h2] at h15
      simp [c14_b1, c14_r1, c14_a1, hk, hi, wk, hx, hy, callV_pure, p11, p15, h11, h15]
    | true =>
      rw [h2] at h15
      by_cases h3 : x.ix < y.ix
      · simp [c14_b1, c14_r1, c14_a1, hk, hi, wk, hx, hy, callV_pure, p11, p15, h11, h15, h3]
      · by_cases h4 : x.ix = y.ix
        · simp only [h4] at h11 h15 hx
          by_cases h5 : k < i
          · simp [c14_b1, c14_r1, c14_a1, hk, hi, wk, hx, hy, callV_pure, p11, p15, h11, h15, h4, h5]
          · simp [c14_b1, c14_r1, c14_a1, hk, hi, wk, hx, hy, callV_pure, p11, p15, h11, h15, h4, h5]
        · simp [c14_b1, c14_r1, c14_a1, hk, hi, wk, hx, hy, callV_pure, p11, p15, h11, h15, h3, h4]
theorem k14e (call : CallT) (F : Nat) (ls : List (List V)) (out : V) (H : Heap) (n i : Nat) (c d : Bool) : execC call pu 0 F c14_b1 (K14 ls out H n i n c d) = some (.exit 2, ⟨(K14 ls out H n i n c d).fr.set 16 (.bool false), H, d⟩) := by
  simp [K14, c14_b1]
/-- the place is sought -/
theorem w14s (F : Nat) (ls os : List (List V)) (n m i t : Nat) (d : Bool) (q y : Pt) (hls : ls.length = n) (hos : os.length = m) (hy : ls[i]? = some y.vs) (hq : os[t]? = some q.vs) (hi : i < n) (ht : t < m) (hb : m ≤ 100000) (hc : lessB q y = true) :
    kNext (tidy [0, 3, 4, 7, 9, 10] 0) (execC (callF tbl pu (F + 1)) pu 0 (F + 1) c14_b0 (W14 ls (.sl 4 0 m 0 m) [⟨4, os, 0, false, true⟩] n i t d)) = some (W14 ls (.sl 4 0 m 0 m) [⟨4, os, 0, false, true⟩] n i (t + 1) d) := by
  have wt : IntKind.i64.wrap ((t : Int) + 1) = (t : Int) + 1 := wrap64 (by omega) (by omega)
  have h27 := d27 F q y
  subst hls hos
  rw [List.getElem?_eq_getElem hi, Option.some_inj] at hy
  rw [List.getElem?_eq_getElem ht, Option.some_inj] at hq
  rw [hc] at h27
  unfold W14 Pt.vs at *
  simp [c14_b0, c14_r0, c14_a0, hi, ht, wt, hy, hq, callV_pure, p27, h27]
theorem w14e (F : Nat) (ls os : List (List V)) (n m i t : Nat) (d : Bool) (q y : Pt) (hls : ls.length = n) (hos : os.length = m) (hy : ls[i]? = some y.vs) (hq : os[t]? = some q.vs) (hi : i < n) (ht : t < m) (hc : lessB q y = false) :
    ∃ w, execC (callF tbl pu (F + 1)) pu 0 (F + 1) c14_b0 (W14 ls (.sl 4 0 m 0 m) [⟨4, os, 0, false, true⟩] n i t d) = some (.exit 4, E14 w ls (.sl 4 0 m 0 m) [⟨4, os, 0, false, true⟩] n i t d) := by
  have h27 := d27 F q y
  refine ⟨upd (fun _ => .undef) [(72, .int .i64 t), (73, .sl 4 0 m 0 m), (74, .int .i64 m), (75, .bool true), (76, .bool true), (77, .sl 4 0 m 0 m), (78, .int .i64 t), (79, .ptr 0 m t 0), (80, .agg q.vs), (81, .tsl 4 ls), (82, .int .i64 i), (83, .tptr y.vs 0), (84, .agg y.vs), (85, .bool false), (86, .bool false)], ?_⟩
  subst hls hos
  rw [List.getElem?_eq_getElem hi, Option.some_inj] at hy
  rw [List.getElem?_eq_getElem ht, Option.some_inj] at hq
  rw [hc] at h27
  unfold W14 Pt.vs at *
  simp [c14_b0, c14_r0, c14_a0, hi, ht, hy, hq, callV_pure, p27, h27]
  simp [E14, upd]
theorem w14z (call : CallT) (F : Nat) (ls : List (List V)) (n i : Nat) (d : Bool) : 
    ∃ w, execC call pu 0 F c14_b0 (W14 ls .nils [] n i 0 d) = some (.exit 4, E14 w ls .nils [] n i 0 d) := by
  refine ⟨upd (fun _ => .undef) [(72, .int .i64 0), (73, .nils), (74, .int .i64 0), (75, .bool false), (76, .bool false), (77, .tup []), (78, .tup []), (79, .tup []), (80, .tup []), (81, .tup []), (82, .tup []), (83, .tup []), (84, .tup []), (85, .tup []), (86, .bool false)], ?_⟩
  simp [W14, c14_b0, c14_r0, c14_a0]
  simp [E14, upd]
theorem w14y (call : CallT) (F : Nat) (ls os : List (List V)) (n m i : Nat) (d : Bool) : 
    ∃ w, execC call pu 0 F c14_b0 (W14 ls (.sl 4 0 m 0 m) [⟨4, os, 0, false, true⟩] n i m d) = some (.exit 4, E14 w ls (.sl 4 0 m 0 m) [⟨4, os, 0, false, true⟩] n i m d) := by
  refine ⟨upd (fun _ => .undef) [(72, .int .i64 m), (73, .sl 4 0 m 0 m), (74, .int .i64 m), (75, .bool false), (76, .bool false), (77, .tup []), (78, .tup []), (79, .tup []), (80, .tup []), (81, .tup []), (82, .tup []), (83, .tup []), (84, .tup []), (85, .tup []), (86, .bool false)], ?_⟩
  simp [W14, c14_b0, c14_r0, c14_a0]
  simp [E14, upd]
theorem vsL_flat (l : List Pt) : ((vsL l).all fun x => x.all V.flat) = true := by
  simp [vsL, Pt.vs]
theorem vsL_drop (l : List Pt) (n : Nat) : (vsL l).drop n = vsL (l.drop n) := by simp [vsL, List.map_drop]
theorem vsL_take (l : List Pt) (n : Nat) : (vsL l).take n = vsL (l.take n) := by simp [vsL, List.map_take]
theorem sv1 (L t : Nat) (h : t ≤ L) : sliceV 4 (.sl 4 0 L 0 L) none (some (.int .i64 t)) (some (.int .i64 t)) = some (.sl 4 0 L 0 t) := by
  simp [sliceV, loI, hiI, mxOk, h]
theorem sv2 (L t : Nat) (h : t < L) : sliceV 4 (.sl 4 0 L 0 L) (some (.int .i64 t)) none none = some (.sl 4 0 L t (L - t)) := by
  have h1 : t ≤ L := by omega
  have h2 : ¬ t = L := by omega
  simp [sliceV, loI, hiI, mxOk, h1, h2]
  omega
theorem sv3 (L : Nat) (h : 0 < L) : sliceV 4 (.sl 4 0 L 0 L) (some (.int .i64 L)) none none = some (.tsl 4 []) := by
  have h2 : ¬ L = 0 := by omega
  simp [sliceV, loI, hiI, mxOk, h2]
theorem ap1 (o : List Pt) (p : Pt) (t : Nat) (h : t < o.length) (hb : o.length ≤ 60) : appV [⟨4, vsL o, 0, false, true⟩, ⟨4, [p.vs], 0, false, true⟩] 23 4 32 (.sl 4 1 1 0 1) (.sl 4 0 o.length t (o.length - t)) =
    some (.sl 4 1 (1 + (o.length - t)) 0 (1 + (o.length - t)), .upd [⟨4, vsL o, 0, false, true⟩, ⟨4, vsL (p :: o.drop t), 0, false, true⟩] [1]) := by
  have h1 : t + (o.length - t) ≤ o.length := by omega
  have h2 : (1 + (o.length - t)) * 32 ≤ 140737488351232 := by omega
  have h3 : 1 + (o.length - t) ≤ 140737488351232 := by omega
  have h4 : (vsL (o.drop t)).take (o.length - t) = vsL (o.drop t) := List.take_of_length_le (by rw [vsL_length]; simp)
  have h5 : vsL (o.drop t) ≠ [] := by
    intro h'
    have := congrArg List.length h'
    rw [vsL_length] at this
    simp at this
    omega
  have h6 : ([p.vs] : List (List V)).drop (1 + (o.length - t)) = [] := List.drop_eq_nil_of_le (by simp)
  have h7 : ¬ 1 + (o.length - t) ≤ 1 := by omega
  have h8 := vsL_flat (o.drop t)
  have h9 : (vsL (o.drop t)).length = o.length - t := by rw [vsL_length]; simp
  simp only [appV, elemsOf, List.getElem?_cons_zero, List.getElem?_cons_succ, Option.bind_some, vsL_length, vsL_drop, h4, List.length_cons, List.length_nil]
  simp [h1, h2, h3, h5, h7, h8, h9, roomB, h6]
  simp [vsL]
  omega
theorem ap2 (o r : List Pt) (p : Pt) (t : Nat) (h : t ≤ o.length) (hb : o.length ≤ 60) (hr : r = o.drop t) : appV [⟨4, vsL o, 0, false, true⟩, ⟨4, vsL (p :: r), 0, false, true⟩] 23 4 32 (.sl 4 0 o.length 0 t) (.sl 4 1 (1 + (o.length - t)) 0 (1 + (o.length - t))) =
    some (.sl 4 0 (o.length + 1) 0 (o.length + 1), .upd [⟨4, vsL (o.take t ++ p :: o.drop t), 0, false, true⟩, ⟨4, vsL (p :: r), 0, false, true⟩] [0]) := by
  have h0 : (vsL (p :: r)).length = 1 + (o.length - t) := by rw [vsL_length, hr]; simp; omega
  have h2 : (t + (1 + (o.length - t))) * 32 ≤ 140737488351232 := by omega
  have h3 : t + (1 + (o.length - t)) ≤ 140737488351232 := by omega
  have h4 : (vsL (p :: r)).take (1 + (o.length - t)) = vsL (p :: r) := List.take_of_length_le (by omega)
  have h5 : vsL (p :: r) ≠ [] := by simp [vsL]
  have h6 : (vsL o).drop (t + (1 + (o.length - t))) = [] := List.drop_eq_nil_of_le (by rw [vsL_length]; omega)
  have h7 : ¬ t + (1 + (o.length - t)) ≤ o.length := by omega
  have h8 := vsL_flat (p :: r)
  have h10 : t + (1 + (o.length - t)) = o.length + 1 := by omega
  have h11 : ((vsL o).take t ++ vsL (p :: r)).length = o.length + 1 := by rw [List.length_append, h0, List.length_take, vsL_length]; omega
  have h12 : (vsL o).take t ++ vsL (p :: r) = vsL (o.take t ++ p :: o.drop t) := by rw [vsL_take, hr]; simp [vsL]
  simp only [appV, elemsOf, List.getElem?_cons_zero, List.getElem?_cons_succ, Option.bind_some, vsL_length, List.drop_zero, h4]
  rw [vsL_length] at h0
  simp [h0, h2, h3, h, h5, h6, h7, h8, roomB, vsL_length]
  rw [h12]
  rw [h12, vsL_length] at h11
  simp [h11, h10]
end Go.AM.Ytcfijihoepkgeaa
