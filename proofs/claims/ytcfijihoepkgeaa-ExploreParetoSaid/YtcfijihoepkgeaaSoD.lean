/- Insertion sort of a part of a list of points. -/
import Derived.Test.YtcfijihoepkgeaaSoC
set_option linter.unusedVariables false
set_option linter.unusedSimpArgs false
namespace Go.AM.Ytcfijihoepkgeaa
open Go Go.AM
set_option maxRecDepth 100000
set_option maxHeartbeats 0
/-- the inner loop's state -/
def T76 (es : List (List V)) (L a b i j : Nat) (d : Bool) : St :=
  ⟨[.sl 4 0 L 0 L, .int .i64 a, .int .i64 b, .fn 34 [], .undef, .undef, .undef, .undef, .int .i64 i, .int .i64 j, .undef, .undef, .undef, .undef, .undef, .undef, .undef, .undef, .undef, .undef, .undef, .undef, .undef, .undef, .undef, .undef, .undef, .undef, .undef, .undef, .undef, .undef, .undef, .undef, .undef, .undef, .undef, .undef, .undef, .undef, .undef, .undef, .undef, .undef, .undef, .undef, .undef, .undef, .undef, .undef, .undef, .undef, .undef], [⟨4, es, 0, false, true⟩], d⟩
/-- the outer loop's state -/
def U76 (es : List (List V)) (L a b i : Nat) (d : Bool) : St :=
  ⟨[.sl 4 0 L 0 L, .int .i64 a, .int .i64 b, .fn 34 [], .undef, .undef, .undef, .undef, .int .i64 i, .undef, .undef, .undef, .undef, .undef, .undef, .undef, .undef, .undef, .undef, .undef, .undef, .undef, .undef, .undef, .undef, .undef, .undef, .undef, .undef, .undef, .undef, .undef, .undef, .undef, .undef, .undef, .undef, .undef, .undef, .undef, .undef, .undef, .undef, .undef, .undef, .undef, .undef, .undef, .undef, .undef, .undef, .undef, .undef], [⟨4, es, 0, false, true⟩], d⟩
/-- behind the inner loop -/
def E76 (w : Nat → V) (es : List (List V)) (L a b i : Nat) (d : Bool) : St :=
  ⟨[.sl 4 0 L 0 L, .int .i64 a, .int .i64 b, .fn 34 [], w 4, w 5, w 6, w 7, .int .i64 i, w 9, w 10, w 11, w 12, w 13, w 14, w 15, w 16, w 17, w 18, w 19, w 20, w 21, w 22, w 23, w 24, w 25, w 26, w 27, w 28, w 29, w 30, w 31, w 32, w 33, w 34, w 35, w 36, w 37, w 38, w 39, w 40, w 41, w 42, w 43, w 44, w 45, w 46, w 47, w 48, w 49, w 50, w 51, w 52], [⟨4, es, 0, false, true⟩], d⟩
theorem s76 (k : Nat) (es : List (List V)) (L a b i p q : Nat) (d : Bool) (x y : Pt) (hL : es.length = L) (hq : q = p + 1) (hx : es[q]? = some x.vs) (hy : es[p]? = some y.vs) (hlt : cmp3 x y < 0) (ha : a < q) (hqL : q < L) (hb : L ≤ 100000) :
    kNext (tidy [0, 1, 2, 3, 8, 9] 1) (execC (callF tbl pu (k + 7)) pu 1 (k + 7) c76_b0 (T76 es L a b i q d)) = some (T76 ((es.set q y.vs).set p x.vs) L a b i p true) := by
  have hpL : p < L := by omega
  have wp : IntKind.i64.wrap ((q : Int) - 1) = p := by rw [wrap64 (by omega) (by omega)]; omega
  have hpq : q ≠ p := by omega
  have h34 := d34 k x y
  subst hL
  rw [List.getElem?_eq_getElem hqL, Option.some_inj] at hx
  rw [List.getElem?_eq_getElem hpL, Option.some_inj] at hy
  clear hq
  simp only [Pt.vs] at hx hy h34 ⊢
  simp [T76, c76_b0, c76_r0, c76_a0, c76_r1, c76_a1, wp, hx, hy, ha, hpL, hqL, hpq, freeze_nil, callV_pure, p34, h34, hlt]
  rw [if_pos ⟨by kernel_rfl, by kernel_rfl⟩]
  simp [wp]
theorem e76a (k : Nat) (es : List (List V)) (L a b i : Nat) (d : Bool) : ∃ w, execC (callF tbl pu (k + 7)) pu 1 (k + 7) c76_b0 (T76 es L a b i a d) = some (.exit 2, E76 w es L a b i d) := by
  refine ⟨fun n => ((T76 es L a b i a d).fr.set 18 (.int .i64 a) |>.set 19 (.int .i64 a) |>.set 20 (.bool false) |>.set 21 (.bool false) |>.set 22 (.tup []) |>.set 23 (.tup []) |>.set 24 (.tup []) |>.set 25 (.tup []) |>.set 26 (.tup []) |>.set 27 (.tup []) |>.set 28 (.tup []) |>.set 29 (.tup []) |>.set 30 (.tup []) |>.set 31 (.tup []) |>.set 32 (.tup []) |>.set 33 (.tup []) |>.set 34 (.bool false)).getD n .undef, ?_⟩
  simp [T76, E76, c76_b0, c76_r0, c76_a0]
theorem e76b (k : Nat) (es : List (List V)) (L a b i p q : Nat) (d : Bool) (x y : Pt) (hL : es.length = L) (hq : q = p + 1) (hx : es[q]? = some x.vs) (hy : es[p]? = some y.vs) (hlt : ¬ cmp3 x y < 0) (ha : a < q) (hqL : q < L) (hb : L ≤ 100000) :
    ∃ w, execC (callF tbl pu (k + 7)) pu 1 (k + 7) c76_b0 (T76 es L a b i q d) = some (.exit 2, E76 w es L a b i d) := by
  have hpL : p < L := by omega
  have wp : IntKind.i64.wrap ((q : Int) - 1) = p := by rw [wrap64 (by omega) (by omega)]; omega
  have hpq : q ≠ p := by omega
  have h34 := d34 k x y
  refine ⟨fun n => ((T76 es L a b i q d).fr.set 18 (.int .i64 q) |>.set 19 (.int .i64 a) |>.set 20 (.bool true) |>.set 21 (.bool true) |>.set 22 (.fn 34 []) |>.set 23 (.sl 4 0 L 0 L) |>.set 24 (.int .i64 q) |>.set 25 (.ptr 0 L q 0) |>.set 26 (.agg x.vs) |>.set 27 (.sl 4 0 L 0 L) |>.set 28 (.int .i64 q) |>.set 29 (.int .i64 p) |>.set 30 (.ptr 0 L p 0) |>.set 31 (.agg y.vs) |>.set 32 (.int .i64 (cmp3 x y)) |>.set 33 (.bool false) |>.set 34 (.bool false)).getD n .undef, ?_⟩
  subst hL
  rw [List.getElem?_eq_getElem hqL, Option.some_inj] at hx
  rw [List.getElem?_eq_getElem hpL, Option.some_inj] at hy
  clear hq
  simp only [Pt.vs] at hx hy h34 ⊢
  simp [T76, E76, c76_b0, c76_r0, c76_a0, wp, hx, hy, ha, hpL, hqL, hpq, callV_pure, p34, h34, hlt]
theorem l76i (k L a b i : Nat) (P S : List Pt) (ha : a = P.length) (hL : L ≤ 100000) : ∀ (n : Nat) (D1 D2 : List Pt) (x : Pt) (M : Nat) (d : Bool), D1.length = n → L = (P ++ (D1 ++ x :: (D2 ++ S))).length → n < M → Srt (D1 ++ D2) → (∀ y ∈ D2, ltP x y) →
    ∃ C w d', C.Perm (D1 ++ x :: D2) ∧ Srt C ∧ (d' = true ∨ C = D1 ++ x :: D2 ∧ d' = d) ∧ ∀ s, tidy [0, 1, 2, 3, 8, 9] 1 s = some (T76 (vsL (P ++ (D1 ++ x :: (D2 ++ S)))) L a b i (P.length + n) d) →
      iter (tidy [0, 1, 2, 3, 8, 9] 1) (execC (callF tbl pu (k + 7)) pu 1 (k + 7) c76_b0) M s = some (.exit 2, E76 w (vsL (P ++ (C ++ S))) L a b i d')
  | 0, D1, D2, x, M + 1, d, hn, hl, hM, hs, hx => by
    have hD : D1 = [] := by simpa using hn
    subst hD
    obtain ⟨w, hw⟩ := e76a k (vsL (P ++ (x :: D2 ++ S))) L a b i d
    refine ⟨x :: D2, w, d, List.Perm.refl _, ?_, Or.inr ⟨rfl, rfl⟩, fun s h => ?_⟩
    · simp only [List.nil_append] at hs
      exact List.pairwise_cons.mpr ⟨fun y hy => ltP_le (hx y hy), hs⟩
    · simp only [List.nil_append, Nat.add_zero, ← ha] at h
      exact iter_end h hw (by simp)
  | n + 1, D1, D2, x, M + 1, d, hn, hl, hM, hs, hx => by
    obtain ⟨D, y, rfl⟩ : ∃ D y, D1 = D ++ [y] := ⟨D1.dropLast, D1.getLast (by intro h; subst h; simp at hn), (List.dropLast_concat_getLast _).symm⟩
    have hn' : D.length = n := by simpa using hn
    have g : P ++ (D ++ [y] ++ x :: (D2 ++ S)) = (P ++ D) ++ y :: ([] ++ x :: (D2 ++ S)) := by simp
    have hl2 : L = P.length + (n + (1 + (1 + (D2.length + S.length)))) := by rw [hl]; simp; omega
    by_cases hc : cmp3 x y < 0
    · have hst := s76 k (vsL ((P ++ D) ++ y :: ([] ++ x :: (D2 ++ S)))) L a b i (P.length + n) (P.length + (n + 1)) d x y (by rw [vsL_length, hl2]; simp; omega) rfl
        (vsL_get (get_mid2 _ _ _ _ _ _ (by simp; omega))) (vsL_get (get_mid _ _ _ _ (by simp; omega))) hc (by omega) (by omega) hL
      rw [vsL_set, vsL_set, set_mid2 _ _ _ _ _ _ _ (by simp; omega), set_mid _ _ _ _ _ (by simp; omega)] at hst
      obtain ⟨C, w, d', h1, h2, hd, h3⟩ := l76i k L a b i P S ha hL n D (y :: D2) x M true hn' (by rw [hl2]; simp; omega) (by omega) (by simpa using hs) (by
        intro z hz
        rcases List.mem_cons.mp hz with rfl | hz
        · exact (cmp3_neg _ _).mp hc
        · exact hx z hz)
      refine ⟨C, w, d', h1.trans ?_, h2, Or.inl (hd.elim id And.right), fun s h => ?_⟩
      · have : (D ++ [y] ++ x :: D2).Perm (D ++ x :: y :: D2) := by
          simp only [List.append_assoc, List.singleton_append]
          exact List.Perm.append_left _ (List.Perm.swap _ _ _)
        exact this.symm
      · rw [g] at h
        exact iter_go h hst fun s' hs' => h3 s' (by rw [hs']; simp)
    · obtain ⟨w, hw⟩ := e76b k (vsL ((P ++ D) ++ y :: ([] ++ x :: (D2 ++ S)))) L a b i (P.length + n) (P.length + (n + 1)) d x y (by rw [vsL_length, hl2]; simp; omega) rfl
        (vsL_get (get_mid2 _ _ _ _ _ _ (by simp; omega))) (vsL_get (get_mid _ _ _ _ (by simp; omega))) hc (by omega) (by omega) hL
      refine ⟨D ++ [y] ++ x :: D2, w, d, List.Perm.refl _, ?_, Or.inr ⟨rfl, rfl⟩, fun s h => ?_⟩
      · have hyx : leP y x := by
          have := mt (cmp3_neg x y).mpr hc
          exact this
        obtain ⟨q1, q2, q3⟩ := List.pairwise_append.mp hs
        refine List.pairwise_append.mpr ⟨q1, List.pairwise_cons.mpr ⟨fun z hz => ltP_le (hx z hz), q2⟩, ?_⟩
        intro u hu v hv
        rcases List.mem_cons.mp hv with rfl | hv
        · rcases List.mem_append.mp hu with hu | hu
          · exact leP_trans ((List.pairwise_append.mp q1).2.2 u hu y (by simp)) hyx
          · rw [List.mem_singleton.mp hu]; exact hyx
        · exact q3 u hu v hv
      · rw [g] at h
        have e : P ++ (D ++ [y] ++ x :: D2 ++ S) = (P ++ D) ++ y :: ([] ++ x :: (D2 ++ S)) := by simp
        rw [e]
        exact iter_end h hw (by simp)
theorem s76o (k : Nat) (es es' : List (List V)) (L a b i : Nat) (d d' : Bool) (w : Nat → V) (hib : i < b) (hb : b ≤ 100000)
    (h : ∀ s, tidy [0, 1, 2, 3, 8, 9] 1 s = some (T76 es L a b i i d) → iter (tidy [0, 1, 2, 3, 8, 9] 1) (execC (callF tbl pu (k + 7)) pu 1 (k + 7) c76_b0) (k + 7) s = some (.exit 2, E76 w es' L a b i d')) :
    kNext (tidy [0, 1, 2, 3, 8] 1) (execC (callF tbl pu (k + 7)) pu 1 (k + 7) c76_b1 (U76 es L a b i d)) = some (U76 es' L a b (i + 1) d') := by
  have wi : IntKind.i64.wrap ((i : Int) + 1) = (i : Int) + 1 := wrap64 (by omega) (by omega)
  simp [U76, c76_b1, hib, execC_loop, -kIter_succ, -tidy]
  rw [h _ (by simp [T76])]
  simp [E76, wi]
def Z76 (es : List (List V)) (L a b i : Nat) (d : Bool) : St := ⟨((U76 es L a b i d).fr.set 12 (.int .i64 i) |>.set 13 (.int .i64 b) |>.set 14 (.bool false)), [⟨4, es, 0, false, true⟩], d⟩
theorem e76o (call : CallT) (k : Nat) (es : List (List V)) (L a b i : Nat) (d : Bool) (hib : b ≤ i) : execC call pu 1 k c76_b1 (U76 es L a b i d) = some (.exit 0, Z76 es L a b i d) := by
  have n1 : ¬ i < b := by omega
  simp [U76, Z76, c76_b1, n1]
theorem l76o (k L a b : Nat) (P S : List Pt) (ha : a = P.length) (hL : L ≤ 100000) (hk : L ≤ k) : ∀ (R C : List Pt) (M : Nat) (d : Bool), L = (P ++ (C ++ (R ++ S))).length → b = P.length + C.length + R.length → R.length < M → Srt C →
    ∃ C' d', C'.Perm (C ++ R) ∧ Srt C' ∧ (d' = true ∨ C' = C ++ R ∧ d' = d) ∧ ∀ s, tidy [0, 1, 2, 3, 8] 1 s = some (U76 (vsL (P ++ (C ++ (R ++ S)))) L a b (P.length + C.length) d) →
      iter (tidy [0, 1, 2, 3, 8] 1) (execC (callF tbl pu (k + 7)) pu 1 (k + 7) c76_b1) M s = some (.exit 0, Z76 (vsL (P ++ (C' ++ S))) L a b b d')
  | [], C, M + 1, d, hl, hb, hM, hs => by
    refine ⟨C, d, by simp, hs, Or.inr ⟨by simp, rfl⟩, fun s h => ?_⟩
    simp only [List.nil_append] at h
    rw [show P.length + C.length = b by simpa using hb.symm] at h
    exact iter_end h (e76o _ _ _ L a b b d (Nat.le_refl _)) (by simp)
  | x :: R, C, M + 1, d, hl, hb, hM, hs => by
    have hl2 : L = P.length + (C.length + (1 + (R.length + S.length))) := by rw [hl]; simp; omega
    simp only [List.length_cons] at hb hM
    obtain ⟨C1, w, d1, h1, h2, hd1, h3⟩ := l76i k L a b (P.length + C.length) P (R ++ S) ha hL C.length C [] x (k + 7) d rfl (by rw [hl2]; simp; omega) (by omega) (by simpa using hs) (by simp)
    have hst := s76o k (vsL (P ++ (C ++ x :: (R ++ S)))) (vsL (P ++ (C1 ++ (R ++ S)))) L a b (P.length + C.length) d d1 w (by omega) (by omega) (by simpa using h3)
    have hc : C1.length = C.length + 1 := by rw [h1.length_eq]; simp
    obtain ⟨C2, d2, h4, h5, hd2, h6⟩ := l76o k L a b P S ha hL hk R C1 M d1 (by rw [hl2]; simp; omega) (by omega) (by omega) h2
    have hd : d2 = true ∨ C2 = C ++ x :: R ∧ d2 = d := by
      rcases hd2 with h | ⟨h, h'⟩
      · exact Or.inl h
      · rcases hd1 with g | ⟨g, g'⟩
        · exact Or.inl (h'.trans g)
        · exact Or.inr ⟨by rw [h, g]; simp, h'.trans g'⟩
    refine ⟨C2, d2, h4.trans ?_, h5, hd, fun s h => ?_⟩
    · have := h1.append_right R
      simpa using this
    · exact iter_go h hst fun s' hs' => h6 s' (by rw [hs', hc]; rfl)
/-- insertion sort puts a part of a list in order -/
theorem d76 (K : Nat) (P A S : List Pt) (L a b : Nat) (el : L = (P ++ (A ++ S)).length) (ea : a = P.length) (eb : b = P.length + A.length) (hL : L ≤ 100000) (hK : L + 10 ≤ K) : ∃ C d, C.Perm A ∧ Srt C ∧ (d = true ∨ C = A) ∧
    callF tbl pu K 76 [.sl 4 0 L 0 L, .int .i64 a, .int .i64 b, .fn 34 []] [bk (P ++ (A ++ S))] = some (.tup [], [bk (P ++ (C ++ S))], d) := by
  obtain ⟨k, rfl⟩ : ∃ k, K = k + 7 + 1 := ⟨K - 8, by omega⟩
  have hl2 : L = P.length + (A.length + S.length) := by simpa using el
  have wa : IntKind.i64.wrap ((a : Int) + 1) = (a : Int) + 1 := wrap64 (by omega) (by omega)
  cases A with
  | nil =>
    refine ⟨[], false, List.Perm.refl _, List.Pairwise.nil, Or.inr rfl, ?_⟩
    have eb' : b = a := by simp at eb; omega
    subst eb'
    have e := e76o (callF tbl pu (k + 7)) (k + 7) (vsL (P ++ S)) L b b (b + 1) false (by omega)
    rw [callF_eq tbl76, Ytcfijihoepkgeaa.c76]
    simp [execC_loop, -kIter_succ, -tidy, wa]
    rw [show k + 7 = k + 6 + 1 from rfl] at e ⊢
    rw [iter_end (t := U76 (vsL (P ++ S)) L b b (b + 1) false) (by simp [U76, bk]) e (by simp)]
    simp [Z76, U76, bk]
  | cons x R =>
    simp only [List.length_cons] at eb hl2
    obtain ⟨C, d, h1, h2, hd, h3⟩ := l76o k L a b P S ea hL (by omega) R [x] (k + 7) false (by rw [el]; simp) (by simp; omega) (by omega) (by simp [Srt])
    refine ⟨C, d, h1, h2, hd.imp id (fun h => h.1), ?_⟩
    rw [callF_eq tbl76, Ytcfijihoepkgeaa.c76]
    simp [execC_loop, -kIter_succ, -tidy, wa]
    rw [h3 _ (by simp [U76, bk, ea])]
    simp [Z76, U76, bk]
end Go.AM.Ytcfijihoepkgeaa
