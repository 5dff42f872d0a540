/- Swapping two ranges of a list of points, and rotating. -/
import Derived.Test.YtcfijihoepkgeaaAmPu
set_option linter.unusedVariables false
set_option linter.unusedSimpArgs false
namespace Go.AM.Ytcfijihoepkgeaa
open Go Go.AM
set_option maxRecDepth 100000
set_option maxHeartbeats 0
structure Pt where
  ix : Int
  cy : Int
  ii : Int
  ar : Int
def Pt.vs (p : Pt) : List V := [.int .i64 p.ix, .int .i64 p.cy, .int .i64 p.ii, .int .i64 p.ar]
def vsL (l : List Pt) : List (List V) := l.map Pt.vs
def bk (l : List Pt) : Blk := ⟨4, vsL l, 0, false, true⟩
theorem vsL_length (l : List Pt) : (vsL l).length = l.length := by simp [vsL]
theorem vsL_get {l : List Pt} {i : Nat} {p : Pt} (h : l[i]? = some p) : (vsL l)[i]? = some p.vs := by simp [vsL, h]
theorem vsL_set (l : List Pt) (i : Nat) (p : Pt) : (vsL l).set i p.vs = vsL (l.set i p) := by simp [vsL, List.map_set]
theorem freeze_nil (H : Heap) : freezeH H [] = H := rfl
/-- the state at the head of the loop -/
def T98 (es : List (List V)) (L a b n i : Nat) (d : Bool) : St :=
  ⟨[.sl 4 0 L 0 L, .int .i64 a, .int .i64 b, .int .i64 n, .undef, .undef, .undef, .undef, .undef, .undef, .int .i64 i, .undef, .undef, .undef, .undef, .undef, .undef, .undef, .undef, .undef, .undef, .undef, .undef, .undef, .undef, .undef, .undef, .undef, .undef, .undef, .undef, .undef, .undef, .undef, .undef, .undef, .undef, .undef],
   [⟨4, es, 0, false, true⟩], d⟩
theorem s98 (call : CallT) (k : Nat) (es : List (List V)) (L a b n i p q : Nat) (d : Bool) (x y : Pt) (hL : es.length = L) (hp : (a : Int) + i = p) (hq : (b : Int) + i = q) (hx : es[p]? = some x.vs) (hy : es[q]? = some y.vs) (hi : i < n) (hpL : p < L) (hqL : q < L) (hpq : p ≠ q) (hb : L ≤ 100000) (hn : n ≤ 100000) :
    kNext (tidy [0, 1, 2, 3, 10] 1) (execC call pu 1 k c98_b0 (T98 es L a b n i d)) = some (T98 ((es.set p y.vs).set q x.vs) L a b n (i + 1) true) := by
  have wp : IntKind.i64.wrap (p : Int) = p := wrap64 (by omega) (by omega)
  have wq : IntKind.i64.wrap (q : Int) = q := wrap64 (by omega) (by omega)
  have wi : IntKind.i64.wrap ((i : Int) + 1) = (i : Int) + 1 := wrap64 (by omega) (by omega)
  subst hL
  rw [List.getElem?_eq_getElem hpL, Option.some_inj] at hx
  rw [List.getElem?_eq_getElem hqL, Option.some_inj] at hy
  simp only [Pt.vs] at hx hy ⊢
  simp [T98, c98_b0, c98_r0, c98_a0, hp, hq, wp, wq, wi, hx, hy, hi, hpL, hqL, hpq, freeze_nil]
  rw [if_pos ⟨by kernel_rfl, by kernel_rfl⟩]
  simp [wi]
section
variable {pre : St → Option St} {f : St → Option (Ex × St)} {k : Nat} {s t t' : St} {r : Option (Ex × St)}
theorem iter_go (h : pre s = some t) (hn : kNext pre (f t) = some t') (hr : ∀ s', pre s' = some t' → iter pre f k s' = r) : iter pre f (k + 1) s = r := by
  obtain ⟨s', h1, h2⟩ := kNext_some hn
  rw [iter, h, Option.bind_some, h1, Option.bind_some]
  exact hr s' h2
theorem iter_end {x : Ex × St} (h : pre s = some t) (he : f t = some x) (hx : x.1 ≠ .normal) : iter pre f (k + 1) s = some x := by
  rw [iter, h, Option.bind_some, he, Option.bind_some]
  obtain ⟨e, s⟩ := x
  cases e <;> simp_all
end
theorem set_mid {α : Type} (P S : List α) (x y : α) (n : Nat) (h : n = P.length) : (P ++ x :: S).set n y = P ++ y :: S := by
  subst h; simp
theorem get_mid {α : Type} (P S : List α) (x : α) (n : Nat) (h : n = P.length) : (P ++ x :: S)[n]? = some x := by
  subst h; simp
/-- two elements, the one behind the other -/
theorem get_mid2 {α : Type} (P M S : List α) (x y : α) (n : Nat) (h : n = P.length + 1 + M.length) : (P ++ x :: (M ++ y :: S))[n]? = some y := by
  have := get_mid (P ++ x :: M) S y n (by simp; omega)
  simpa using this
theorem set_mid2 {α : Type} (P M S : List α) (x y z : α) (n : Nat) (h : n = P.length + 1 + M.length) : (P ++ x :: (M ++ y :: S)).set n z = P ++ x :: (M ++ z :: S) := by
  have := set_mid (P ++ x :: M) S y z n (by simp; omega)
  simpa using this
def Z98 (l : List Pt) (a b n : Nat) : St := ⟨((T98 (vsL l) l.length a b n n true).fr.set 11 (.int .i64 n) |>.set 12 (.int .i64 n) |>.set 13 (.bool false)), [bk l], true⟩
theorem e98 (call : CallT) (k : Nat) (l : List Pt) (a b n : Nat) (d : Bool) : execC call pu 1 k c98_b0 (T98 (vsL l) l.length a b n n d) = some (.exit 0, ⟨(Z98 l a b n).fr, [bk l], d⟩) := by
  simp [T98, Z98, c98_b0, bk, vsL]
theorem l98 (call : CallT) (k : Nat) (P W S : List Pt) (L a b n : Nat) (ha : a = P.length) (hL : L ≤ 100000) : ∀ (X2 Y2 X1 Y1 : List Pt) (m : Nat) (s : St) (d : Bool), X1.length = Y1.length → X2.length = Y2.length → n = X1.length + X2.length → b = P.length + n + W.length → L = b + n + S.length → X2.length < m →
    (n = 0 → d = true) → (X1 = [] ∨ d = true) →
    tidy [0, 1, 2, 3, 10] 1 s = some (T98 (vsL (P ++ (Y1 ++ (X2 ++ (W ++ (X1 ++ (Y2 ++ S))))))) L a b n X1.length d) →
    iter (tidy [0, 1, 2, 3, 10] 1) (execC call pu 1 k c98_b0) m s = some (.exit 0, ⟨(Z98 (P ++ (Y1 ++ Y2 ++ (W ++ (X1 ++ X2 ++ S)))) a b n).fr, [bk (P ++ (Y1 ++ Y2 ++ (W ++ (X1 ++ X2 ++ S))))], true⟩)
  | [], [], X1, Y1, m + 1, s, d, h1, h2, hn, hb, hl, hm, h0, hd, hs => by
    have hn' : X1.length = n := by simpa using hn.symm
    have hLL : L = (P ++ (Y1 ++ (W ++ (X1 ++ S)))).length := by simp; omega
    simp only [List.append_nil, List.nil_append] at hs ⊢
    rw [hn', hLL] at hs
    have hd' : d = true := by
      rcases hd with hd | hd
      · subst hd; exact h0 (by simpa using hn)
      · exact hd
    subst hd'
    exact iter_end hs (e98 _ _ _ _ _ _ _) (by simp)
  | x :: X2, y :: Y2, X1, Y1, m + 1, s, d, h1, h2, hn, hb, hl, hm, h0, hd, hs => by
    simp only [List.length_cons] at *
    have g : P ++ (Y1 ++ (x :: X2 ++ (W ++ (X1 ++ (y :: Y2 ++ S))))) = (P ++ Y1) ++ x :: ((X2 ++ (W ++ X1)) ++ y :: (Y2 ++ S)) := by simp
    have hst := s98 call k (vsL ((P ++ Y1) ++ x :: ((X2 ++ (W ++ X1)) ++ y :: (Y2 ++ S)))) L a b n X1.length (a + X1.length) (b + X1.length) d x y
      (by rw [vsL_length]; simp; omega) (by omega) (by omega) (vsL_get (get_mid _ _ _ _ (by simp; omega))) (vsL_get (get_mid2 _ _ _ _ _ _ (by simp; omega))) (by omega) (by omega) (by omega) (by omega) hL (by omega)
    rw [vsL_set, vsL_set, set_mid _ _ _ _ _ (by simp; omega), set_mid2 _ _ _ _ _ _ _ (by simp; omega)] at hst
    rw [g] at hs
    refine iter_go hs hst ?_
    intro s' hs'
    have hl' := l98 call k P W S L a b n ha hL X2 Y2 (X1 ++ [x]) (Y1 ++ [y]) m s' true (by simp; omega) (by omega) (by simp; omega) hb hl (by omega) (fun _ => rfl) (Or.inr rfl) (by rw [hs']; simp)
    rw [hl']
    simp
theorem d98 (k : Nat) (P X W Y S : List Pt) (hXY : X.length = Y.length) (hL : (P ++ (X ++ (W ++ (Y ++ S)))).length ≤ 100000) (hX : X ≠ []) :
    callF tbl pu (k + X.length + 2) 98 [.sl 4 0 (P ++ (X ++ (W ++ (Y ++ S)))).length 0 (P ++ (X ++ (W ++ (Y ++ S)))).length, .int .i64 P.length, .int .i64 (P.length + X.length + W.length : Nat), .int .i64 X.length, .fn 34 []] [bk (P ++ (X ++ (W ++ (Y ++ S))))] =
      some (.tup [], [bk (P ++ (Y ++ (W ++ (X ++ S))))], true) := by
  have hlen : (P ++ (X ++ (W ++ (Y ++ S)))).length = P.length + X.length + W.length + X.length + S.length := by simp; omega
  rw [hlen] at hL ⊢
  have hx0 : X.length ≠ 0 := by simpa using hX
  rw [show k + X.length + 2 = (k + X.length + 1) + 1 from rfl, callF_eq tbl98, Ytcfijihoepkgeaa.c98]
  simp only [execC_seq, execC_reg, execC_block, execC_loop]
  simp [execC_loop, -kIter_succ, -tidy]
  rw [l98 _ _ P W S (P.length + X.length + W.length + X.length + S.length) P.length (P.length + X.length + W.length) X.length rfl hL X Y [] [] (k + X.length + 1) _ false rfl hXY (by simp) (by omega) (by omega) (by omega) (fun h => absurd h hx0) (Or.inl rfl) (by simp [T98, bk])]
  simp [Z98, T98, bk]
end Go.AM.Ytcfijihoepkgeaa
