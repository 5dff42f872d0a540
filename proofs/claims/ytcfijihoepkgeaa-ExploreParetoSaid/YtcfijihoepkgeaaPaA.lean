/- Contracts: the closures of Pareto, IndexFunc and ContainsFunc. -/
import Derived.Test.YtcfijihoepkgeaaSoI
set_option linter.unusedVariables false
set_option linter.unusedSimpArgs false
namespace Go.AM.Ytcfijihoepkgeaa
open Go Go.AM
set_option maxRecDepth 100000
set_option maxHeartbeats 0
def domP (p q : Pt) : Bool := decide (p.cy ≤ q.cy) && decide (p.ii ≤ q.ii) && decide (p.ar ≤ q.ar) && (decide (p.cy < q.cy) || decide (p.ii < q.ii) || decide (p.ar < q.ar))
def eqP (p q : Pt) : Bool := decide (p.cy = q.cy) && decide (p.ii = q.ii) && decide (p.ar = q.ar)
theorem p10 : pu 10 = true := by decide
theorem p32 : pu 32 = true := by decide
theorem p29 : pu 29 = false := by decide
theorem p31 : pu 31 = false := by decide
theorem p30 : pu 30 = false := by decide
theorem p28 : pu 28 = false := by decide
theorem d10 (k : Nat) (p q : Pt) : callF tbl pu (k + 1) 10 [.agg p.vs, .agg q.vs] [] = some (.bool (domP p q), [], false) := by
  rw [callF_eq tbl10, Ytcfijihoepkgeaa.c10]
  unfold domP Pt.vs
  by_cases h1 : p.cy ≤ q.cy
  · by_cases h2 : p.ii ≤ q.ii
    · by_cases h3 : p.ar ≤ q.ar
      · by_cases h4 : p.cy < q.cy
        · simp [*]
        · by_cases h5 : p.ii < q.ii
          · simp [*]
          · by_cases h6 : p.ar < q.ar <;> simp [*]
      · simp [*]
    · simp [*]
  · simp [*]
theorem d32 (k : Nat) (p q : Pt) : callF tbl pu (k + 1) 32 [.agg p.vs, .agg q.vs] [] = some (.bool (eqP p q), [], false) := by
  rw [callF_eq tbl32, Ytcfijihoepkgeaa.c32]
  unfold eqP Pt.vs
  by_cases h1 : p.cy = q.cy
  · by_cases h2 : p.ii = q.ii <;> simp [*]
  · simp [*]
/-- a point in memory of its own -/
def bx (p : Pt) : Blk := ⟨4, [p.vs], 0, true, true⟩
theorem d29 (k : Nat) (p q : Pt) : callF tbl pu (k + 3) 29 [.agg q.vs, .ptr 0 1 0 0] [bx p] = some (.bool (domP q p), [bx p], false) := by
  have h := d10 (k + 1) q p
  rw [callF_eq tbl29, Ytcfijihoepkgeaa.c29]
  unfold bx Pt.vs at *
  simp [callV_pure, p10, h]
theorem d31 (k : Nat) (p q : Pt) : callF tbl pu (k + 3) 31 [.agg q.vs, .ptr 0 1 0 0] [bx p] = some (.bool (eqP p q), [bx p], false) := by
  have h := d32 (k + 1) p q
  rw [callF_eq tbl31, Ytcfijihoepkgeaa.c31]
  unfold bx Pt.vs at *
  simp [callV_pure, p32, h]
/-- the place of the first one, or -1 -/
def idxI (t : Pt → Bool) (l : List Pt) : Int := match l.findIdx? t with
  | some i => i
  | none => -1
def T30 (v g : V) (H : Heap) (n j : Nat) : St := ⟨[v, g, .undef, .undef, .undef, .undef, .undef, .int .i64 n, .int .i64 j, .undef, .undef, .undef, .undef, .undef, .undef, .undef, .undef, .undef, .undef], H, false⟩
/-- a round over data -/
theorem s30a (k : Nat) (es : List (List V)) (n j : Nat) (p y : Pt) (hn : es.length = n) (hy : es[j]? = some y.vs) (hj : j < n) (hb : n ≤ 100000) (ht : domP y p = false) :
    kNext (tidy [0, 1, 7, 8] 1) (execC (callF tbl pu (k + 3)) pu 1 (k + 3) c30_b0 (T30 (.tsl 4 es) (.fn 29 [.ptr 0 1 0 0]) [bx p] n j)) = some (T30 (.tsl 4 es) (.fn 29 [.ptr 0 1 0 0]) [bx p] n (j + 1)) := by
  have h := d29 k p y
  have wj : IntKind.i64.wrap ((j : Int) + 1) = (j : Int) + 1 := wrap64 (by omega) (by omega)
  subst hn
  rw [List.getElem?_eq_getElem hj, Option.some_inj] at hy
  unfold bx Pt.vs at *
  simp [T30, c30_b0, hj, hy, callV, p29, h, wj, backG, renH, ht]
theorem r30a (k : Nat) (es : List (List V)) (n j : Nat) (p y : Pt) (hn : es.length = n) (hy : es[j]? = some y.vs) (hj : j < n) (hb : n ≤ 100000) (ht : domP y p = true) :
    ∃ fr, execC (callF tbl pu (k + 3)) pu 1 (k + 3) c30_b0 (T30 (.tsl 4 es) (.fn 29 [.ptr 0 1 0 0]) [bx p] n j) = some (.ret, ⟨fr, [bx p], false⟩) ∧ fr.getD 4 .undef = .int .i64 j := by
  have h := d29 k p y
  refine ⟨(T30 (.tsl 4 es) (.fn 29 [.ptr 0 1 0 0]) [bx p] n j).fr.set 9 (.bool true) |>.set 10 (.int .i64 j) |>.set 5 (.int .i64 j) |>.set 11 (.fn 29 [.ptr 0 1 0 0]) |>.set 12 (.tsl 4 es) |>.set 13 (.int .i64 j) |>.set 14 (.tptr y.vs 0) |>.set 15 (.agg y.vs) |>.set 16 (.bool true) |>.set 17 (.int .i64 j) |>.set 4 (.int .i64 j), ?_, ?_⟩
  · subst hn
    rw [List.getElem?_eq_getElem hj, Option.some_inj] at hy
    unfold bx Pt.vs at *
    simp [T30, c30_b0, hj, hy, callV, p29, h, backG, renH, ht]
  · simp [T30]
theorem e30a (k : Nat) (es : List (List V)) (n : Nat) (g : V) (H : Heap) (call : CallT) (m : Nat) (v : V) : execC call pu m k c30_b0 (T30 v g H n n) = some (.exit 0, ⟨(T30 v g H n n).fr.set 9 (.bool false), H, false⟩) := by
  simp [T30, c30_b0]
/-- a round over a list of the call's own -/
theorem s30b (k : Nat) (es : List (List V)) (n j : Nat) (p y : Pt) (hn : es.length = n) (hy : es[j]? = some y.vs) (hj : j < n) (hb : n ≤ 100000) (ht : eqP p y = false) :
    kNext (tidy [0, 1, 7, 8] 2) (execC (callF tbl pu (k + 3)) pu 2 (k + 3) c30_b0 (T30 (.sl 4 0 n 0 n) (.fn 31 [.ptr 1 1 0 0]) [⟨4, es, 0, false, true⟩, bx p] n j)) = some (T30 (.sl 4 0 n 0 n) (.fn 31 [.ptr 1 1 0 0]) [⟨4, es, 0, false, true⟩, bx p] n (j + 1)) := by
  have h := d31 k p y
  have wj : IntKind.i64.wrap ((j : Int) + 1) = (j : Int) + 1 := wrap64 (by omega) (by omega)
  subst hn
  rw [List.getElem?_eq_getElem hj, Option.some_inj] at hy
  unfold bx Pt.vs at *
  simp [T30, c30_b0, hj, hy, callV, p31, h, wj, backG, renH, ht, List.range, List.range.loop]
theorem r30b (k : Nat) (es : List (List V)) (n j : Nat) (p y : Pt) (hn : es.length = n) (hy : es[j]? = some y.vs) (hj : j < n) (hb : n ≤ 100000) (ht : eqP p y = true) :
    ∃ fr, execC (callF tbl pu (k + 3)) pu 2 (k + 3) c30_b0 (T30 (.sl 4 0 n 0 n) (.fn 31 [.ptr 1 1 0 0]) [⟨4, es, 0, false, true⟩, bx p] n j) = some (.ret, ⟨fr, [⟨4, es, 0, false, true⟩, bx p], false⟩) ∧ fr.getD 4 .undef = .int .i64 j := by
  have h := d31 k p y
  refine ⟨(T30 (.sl 4 0 n 0 n) (.fn 31 [.ptr 1 1 0 0]) [bx p] n j).fr.set 9 (.bool true) |>.set 10 (.int .i64 j) |>.set 5 (.int .i64 j) |>.set 11 (.fn 31 [.ptr 1 1 0 0]) |>.set 12 (.sl 4 0 n 0 n) |>.set 13 (.int .i64 j) |>.set 14 (.ptr 0 n j 0) |>.set 15 (.agg y.vs) |>.set 16 (.bool true) |>.set 17 (.int .i64 j) |>.set 4 (.int .i64 j), ?_, ?_⟩
  · subst hn
    rw [List.getElem?_eq_getElem hj, Option.some_inj] at hy
    unfold bx Pt.vs at *
    simp [T30, c30_b0, hj, hy, callV, p31, h, backG, renH, ht]
  · simp [T30]
theorem idx_found {t : Pt → Bool} {D R : List Pt} {y : Pt} (hD : ∀ x ∈ D, t x = false) (hy : t y = true) : idxI t (D ++ y :: R) = D.length := by
  have h1 : List.findIdx? t D = none := by rw [List.findIdx?_eq_none_iff]; exact hD
  simp [idxI, List.findIdx?_append, h1, hy, List.findIdx?_cons]
theorem idx_none {t : Pt → Bool} {D : List Pt} (hD : ∀ x ∈ D, t x = false) : idxI t D = -1 := by
  have h1 : List.findIdx? t D = none := by rw [List.findIdx?_eq_none_iff]; exact hD
  simp [idxI, h1]
def Ends30 (v g : V) (H : Heap) (n : Nat) (i : Int) (r : Ex × St) : Prop :=
  (∃ fr, r = (.ret, ⟨fr, H, false⟩) ∧ fr.getD 4 .undef = .int .i64 i) ∨ (r = (.exit 0, ⟨(T30 v g H n n).fr.set 9 (.bool false), H, false⟩) ∧ i = -1)
theorem l30 {pre : St → Option St} {f : St → Option (Ex × St)} {v g : V} {H : Heap} {n : Nat} {l : List Pt} (t : Pt → Bool) (hn : l.length = n)
    (hs : ∀ j y, l[j]? = some y → j < n → t y = false → kNext pre (f (T30 v g H n j)) = some (T30 v g H n (j + 1)))
    (hr : ∀ j y, l[j]? = some y → j < n → t y = true → ∃ fr, f (T30 v g H n j) = some (.ret, ⟨fr, H, false⟩) ∧ fr.getD 4 .undef = .int .i64 j)
    (he : f (T30 v g H n n) = some (.exit 0, ⟨(T30 v g H n n).fr.set 9 (.bool false), H, false⟩)) :
    ∀ (R D : List Pt) (M : Nat), l = D ++ R → (∀ x ∈ D, t x = false) → R.length < M → ∃ r, Ends30 v g H n (idxI t l) r ∧ ∀ s, pre s = some (T30 v g H n D.length) → iter pre f M s = some r
  | [], D, M + 1, hl, hD, hM => by
    have hl : l = D := by simpa using hl
    subst hl
    refine ⟨_, Or.inr ⟨rfl, idx_none hD⟩, fun s h => ?_⟩
    rw [hn] at h
    exact iter_end h he (by simp)
  | y :: R, D, M + 1, hl, hD, hM => by
    have hy : l[D.length]? = some y := by rw [hl]; simp
    have hj : D.length < n := by rw [← hn, hl]; simp
    cases ht : t y with
    | false =>
      obtain ⟨r, h1, h2⟩ := l30 t hn hs hr he R (D ++ [y]) M (by rw [hl]; simp) (by
        intro x hx
        rcases List.mem_append.mp hx with hx | hx
        · exact hD x hx
        · rw [List.mem_singleton.mp hx]; exact ht) (by simpa using hM)
      exact ⟨r, h1, fun s h => iter_go h (hs _ y hy hj ht) fun s' hs' => h2 s' (by simpa using hs')⟩
    | true =>
      obtain ⟨fr, h1, h2⟩ := hr _ y hy hj ht
      refine ⟨_, Or.inl ⟨fr, rfl, ?_⟩, fun s h => iter_end h h1 (by simp)⟩
      rw [hl, idx_found hD ht]
      exact h2
theorem d30a (k : Nat) (l : List Pt) (p : Pt) (hb : l.length ≤ 100000) (hk : l.length ≤ k) : callF tbl pu (k + 4) 30 [.tsl 4 (vsL l), .fn 29 [.ptr 0 1 0 0]] [bx p] = some (.int .i64 (idxI (fun y => domP y p) l), [bx p], false) := by
  obtain ⟨r, h1, h2⟩ := l30 (pre := tidy [0, 1, 7, 8] 1) (f := execC (callF tbl pu (k + 3)) pu 1 (k + 3) c30_b0) (v := .tsl 4 (vsL l)) (g := .fn 29 [.ptr 0 1 0 0]) (H := [bx p]) (n := l.length) (l := l) (fun y => domP y p) rfl
    (fun j y hy hj ht => s30a k _ _ _ _ _ (vsL_length l) (vsL_get hy) hj hb ht) (fun j y hy hj ht => r30a k _ _ _ _ _ (vsL_length l) (vsL_get hy) hj hb ht) (e30a (k + 3) [] _ _ _ _ _ _) l [] (k + 3) (by simp) (by simp) (by omega)
  rw [callF_eq tbl30, Ytcfijihoepkgeaa.c30]
  simp [execC_loop, -kIter_succ, -tidy, vsL_length]
  rw [h2 _ (by simp [T30, bx, Pt.vs])]
  rcases h1 with ⟨fr, rfl, hf⟩ | ⟨rfl, hi⟩
  · have hf' : fr[4]?.getD .undef = .int .i64 (idxI (fun y => domP y p) l) := by simpa using hf
    simp [hf', bx, Pt.vs]
  · simp [T30, hi, bx, Pt.vs]
theorem d30b (k : Nat) (l : List Pt) (p : Pt) (hb : l.length ≤ 100000) (hk : l.length ≤ k) : callF tbl pu (k + 4) 30 [.sl 4 0 l.length 0 l.length, .fn 31 [.ptr 1 1 0 0]] [bk l, bx p] = some (.int .i64 (idxI (fun y => eqP p y) l), [bk l, bx p], false) := by
  obtain ⟨r, h1, h2⟩ := l30 (pre := tidy [0, 1, 7, 8] 2) (f := execC (callF tbl pu (k + 3)) pu 2 (k + 3) c30_b0) (v := .sl 4 0 l.length 0 l.length) (g := .fn 31 [.ptr 1 1 0 0]) (H := [bk l, bx p]) (n := l.length) (l := l) (fun y => eqP p y) rfl
    (fun j y hy hj ht => s30b k _ _ _ _ _ (vsL_length l) (vsL_get hy) hj hb ht) (fun j y hy hj ht => r30b k _ _ _ _ _ (vsL_length l) (vsL_get hy) hj hb ht) (e30a (k + 3) [] _ _ _ _ _ _) l [] (k + 3) (by simp) (by simp) (by omega)
  rw [callF_eq tbl30, Ytcfijihoepkgeaa.c30]
  simp [execC_loop, -kIter_succ, -tidy, vsL_length]
  rw [h2 _ (by simp [T30, bx, Pt.vs, List.range, List.range.loop])]
  rcases h1 with ⟨fr, rfl, hf⟩ | ⟨rfl, hi⟩
  · have hf' : fr[4]?.getD .undef = .int .i64 (idxI (fun y => eqP p y) l) := by simpa using hf
    simp [hf', bx, Pt.vs, List.range, List.range.loop]
  · simp [T30, hi, bx, Pt.vs, List.range, List.range.loop]
theorem d30n (k : Nat) (p : Pt) : callF tbl pu (k + 4) 30 [.nils, .fn 31 [.ptr 0 1 0 0]] [bx p] = some (.int .i64 (-1), [bx p], false) := by
  rw [callF_eq tbl30, Ytcfijihoepkgeaa.c30]
  simp [execC_loop, c30_b0, bx, Pt.vs]
theorem idx_any (t : Pt → Bool) (l : List Pt) : decide (0 ≤ idxI t l) = l.any t := by
  unfold idxI
  cases h : List.findIdx? t l with
  | none =>
    rw [List.findIdx?_eq_none_iff] at h
    have : l.any t = false := by rw [List.any_eq_false]; intro x hx; simp [h x hx]
    simp [this]
  | some i =>
    have : l.any t = true := by
      have := List.findIdx?_isSome (p := t) (xs := l)
      rw [h] at this
      simpa using this.symm
    simp [this]
theorem d28 (k : Nat) (l : List Pt) (p : Pt) (hb : l.length ≤ 100000) (hk : l.length ≤ k) : callF tbl pu (k + 5) 28 [.tsl 4 (vsL l), .fn 29 [.ptr 0 1 0 0]] [bx p] = some (.bool (l.any fun y => domP y p), [bx p], false) := by
  have h := d30a k l p hb hk
  have ha := idx_any (fun y => domP y p) l
  rw [callF_eq tbl28, Ytcfijihoepkgeaa.c28]
  unfold bx Pt.vs at *
  simp [callV, p30, h, renH, backG, ha]
end Go.AM.Ytcfijihoepkgeaa
