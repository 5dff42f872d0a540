/- symMerge with one element on a side. -/
import Derived.Test.YtcfijihoepkgeaaSoE
set_option linter.unusedVariables false
set_option linter.unusedSimpArgs false
namespace Go.AM.Ytcfijihoepkgeaa
open Go Go.AM
set_option maxRecDepth 100000
set_option maxHeartbeats 0
theorem srt_get {l : List Pt} (h : Srt l) {i j : Nat} {x y : Pt} (hij : i ≤ j) (hx : l[i]? = some x) (hy : l[j]? = some y) : leP x y := by
  obtain ⟨hi, rfl⟩ := List.getElem?_eq_some_iff.mp hx
  obtain ⟨hj, rfl⟩ := List.getElem?_eq_some_iff.mp hy
  rcases Nat.lt_or_eq_of_le hij with hlt | rfl
  · exact List.pairwise_iff_getElem.mp h i j hi hj hlt
  · exact leP_refl _
theorem cmp3_iff (x y : Pt) : (cmp3 x y < 0) = (ltP x y) := propext (cmp3_neg x y)
/-- the element that is moved up -/
theorem l77c (call : CallT) (k L i : Nat) (P S : List Pt) (x : Pt) (hL : L ≤ 100000) : ∀ (R D : List Pt) (M : Nat) (d : Bool), L = (P ++ (D ++ x :: (R ++ S))).length → i = P.length + D.length + R.length + 1 → R.length < M →
    ∀ s, tidy [0, 10, 13] 1 s = some (C77 (vsL (P ++ (D ++ x :: (R ++ S)))) L i (P.length + D.length) d) →
    iter (tidy [0, 10, 13] 1) (execC call pu 1 k c77_b3) M s = some (.exit 2, ⟨(C77 [] L i (i - 1) d).fr.set 55 (.int .i64 (i - 1 : Nat)) |>.set 56 (.int .i64 i) |>.set 57 (.int .i64 (i - 1 : Nat)) |>.set 58 (.bool false), [bk (P ++ (D ++ (R ++ x :: S)))], d || !R.isEmpty⟩)
  | [], D, M + 1, d, hl, hi, hM, s, hs => by
    have e := e77c call k (vsL (P ++ (D ++ x :: ([] ++ S)))) L i (P.length + D.length) d (by simpa using hi) (by simp at hl; simp at hi; omega)
    rw [show i - 1 = P.length + D.length by simp at hi; omega]
    refine (iter_end hs e (by simp)).trans ?_
    simp [C77, bk]
  | y :: R, D, M + 1, d, hl, hi, hM, s, hs => by
    simp only [List.length_cons] at hi hM
    have hl2 : L = P.length + (D.length + (1 + (1 + (R.length + S.length)))) := by rw [hl]; simp; omega
    have g : P ++ (D ++ x :: (y :: R ++ S)) = (P ++ D) ++ x :: ([] ++ y :: (R ++ S)) := by simp
    have hst := s77c call k (vsL ((P ++ D) ++ x :: ([] ++ y :: (R ++ S)))) L i (P.length + D.length) (P.length + D.length + 1) d x y (by rw [vsL_length, hl2]; simp; omega) rfl (by omega)
      (vsL_get (get_mid _ _ _ _ (by simp))) (vsL_get (get_mid2 _ _ _ _ _ _ (by simp))) (by omega) (by omega) hL
    rw [vsL_set, vsL_set, set_mid _ _ _ _ _ (by simp), set_mid2 _ _ _ _ _ _ _ (by simp)] at hst
    rw [g] at hs
    refine iter_go hs hst fun s' hs' => ?_
    have := l77c call k L i P S x hL R (D ++ [y]) M true (by rw [hl2]; simp; omega) (by simp; omega) (by omega) s' (by rw [hs']; simp [Nat.add_assoc])
    rw [this]
    simp [C77]
/-- the element that is moved down -/
theorem l77a (call : CallT) (k L i : Nat) (P S : List Pt) (x : Pt) (hL : L ≤ 100000) (hi : i = P.length) : ∀ (n : Nat) (R D : List Pt) (M : Nat) (d : Bool), R.length = n → L = (P ++ (R ++ x :: (D ++ S))).length → n < M →
    ∀ s, tidy [0, 14, 17] 1 s = some (A77 (vsL (P ++ (R ++ x :: (D ++ S)))) L i (P.length + n) d) →
    iter (tidy [0, 14, 17] 1) (execC call pu 1 k c77_b1) M s = some (.exit 6, ⟨(A77 [] L i i d).fr.set 108 (.int .i64 i) |>.set 109 (.int .i64 i) |>.set 110 (.bool false), [bk (P ++ (x :: (R ++ (D ++ S))))], d || !R.isEmpty⟩)
  | 0, R, D, M + 1, d, hn, hl, hM, s, hs => by
    have hD : R = [] := by simpa using hn
    subst hD
    rw [Nat.add_zero, ← hi] at hs
    refine (iter_end hs (e77a call k _ L i d) (by simp)).trans ?_
    simp [A77, bk]
  | n + 1, R, D, M + 1, d, hn, hl, hM, s, hs => by
    obtain ⟨R, y, rfl⟩ : ∃ R' y, R = R' ++ [y] := ⟨R.dropLast, R.getLast (by intro h; subst h; simp at hn), (List.dropLast_concat_getLast _).symm⟩
    have hn' : R.length = n := by simpa using hn
    have hl2 : L = P.length + (n + (1 + (1 + (D.length + S.length)))) := by rw [hl]; simp; omega
    have g : P ++ (R ++ [y] ++ x :: (D ++ S)) = (P ++ R) ++ y :: ([] ++ x :: (D ++ S)) := by simp
    have hst := s77a call k (vsL ((P ++ R) ++ y :: ([] ++ x :: (D ++ S)))) L i (P.length + n) (P.length + (n + 1)) d x y (by rw [vsL_length, hl2]; simp; omega) rfl (by omega)
      (vsL_get (get_mid2 _ _ _ _ _ _ (by simp; omega))) (vsL_get (get_mid _ _ _ _ (by simp; omega))) (by omega) hL
    rw [vsL_set, vsL_set, set_mid2 _ _ _ _ _ _ _ (by simp; omega), set_mid _ _ _ _ _ (by simp; omega)] at hst
    rw [g] at hs
    refine iter_go hs hst fun s' hs' => ?_
    have := l77a call k L i P S x hL hi n R (y :: D) M true hn' (by rw [hl2]; simp; omega) (by omega) s' (by rw [hs']; simp)
    rw [this]
    simp [A77]
/-- what is to be told of a merge -/
def Merged (K L a m b : Nat) (P A B S : List Pt) : Prop := ∃ C d, C.Perm (A ++ B) ∧ Srt C ∧ (d = true ∨ C = A ++ B) ∧
    callF tbl pu K 77 [.sl 4 0 L 0 L, .int .i64 a, .int .i64 m, .int .i64 b, .fn 34 []] [bk (P ++ (A ++ (B ++ S)))] = some (.tup [], [bk (P ++ (C ++ S))], d)
theorem d77x (K L a m b : Nat) (P B S : List Pt) (x : Pt) (el : L = (P ++ ([x] ++ (B ++ S))).length) (ea : a = P.length) (em : m = P.length + 1) (eb : b = P.length + 1 + B.length) (hL : L ≤ 100000) (hK : L + 10 ≤ K) (hs : Srt B) : Merged K L a m b P [x] B S := by
  obtain ⟨k, rfl⟩ : ∃ k, K = k + 7 + 1 := ⟨K - 8, by omega⟩
  have hl2 : L = P.length + (1 + (B.length + S.length)) := by rw [el]; simp; omega
  have gB : ∀ c, m ≤ c → c < b → ∃ y, B[c - m]? = some y ∧ (P ++ ([x] ++ (B ++ S)))[c]? = some y := by
    intro c h1 h2
    refine ⟨B[c - m]'(by omega), by simp, ?_⟩
    rw [List.getElem?_append_right (by omega), List.getElem?_append_right (by simp; omega), List.getElem?_append_left (by simp; omega)]
    rw [show c - P.length - [x].length = c - m by simp; omega]
    simp
  have gx : (P ++ ([x] ++ (B ++ S)))[a]? = some x := by rw [ea]; simp
  obtain ⟨e, e1, e2, e3, e4, e5⟩ := bsearch (pre := tidy [0, 1, 4, 10, 11] 1) (f := execC (callF tbl pu (k + 7)) pu 1 (k + 7) c77_b4) (fun i j => D77 (vsL (P ++ ([x] ++ (B ++ S)))) L a i j false) (fun c => ∀ y, B[c - m]? = some y → ltP y x) m b
    (by
      intro c c' h1 h2 h3 hq y hy
      obtain ⟨y', hy', _⟩ := gB c' (by omega) h3
      exact le_lt_trans (srt_get hs (by omega) hy hy') (hq y' hy'))
    (by
      intro i j h1 h2 h3 hq
      obtain ⟨y, hy, hy'⟩ := gB ((i + j) / 2) (by omega) (by omega)
      have := s77d k (vsL (P ++ ([x] ++ (B ++ S)))) L a i j ((i + j) / 2) false x y (by rw [vsL_length, ← el]) rfl h2 (vsL_get hy') (vsL_get gx) (by omega) (by omega) (by omega) hL
      rw [if_pos ((cmp3_neg _ _).mpr (hq y hy))] at this
      exact this)
    (by
      intro i j h1 h2 h3 hq
      obtain ⟨y, hy, hy'⟩ := gB ((i + j) / 2) (by omega) (by omega)
      have := s77d k (vsL (P ++ ([x] ++ (B ++ S)))) L a i j ((i + j) / 2) false x y (by rw [vsL_length, ← el]) rfl h2 (vsL_get hy') (vsL_get gx) (by omega) (by omega) (by omega) hL
      rw [if_neg (fun h => hq (by intro z hz; rw [hy] at hz; cases hz; exact (cmp3_neg _ _).mp h))] at this
      exact this)
    _ (fun i => e77d _ _ _ L a i false) (by simp) _ m b rfl (by omega) (by omega) (by omega) (by intro c h1 h2; omega) (by intro c h1 h2; omega)
  have t3 := List.take_append_drop (e - m) B
  have t4 : (B.take (e - m)).length = e - m := by simp; omega
  have g1 : ∀ y ∈ B.take (e - m), ltP y x := by
    intro y hy
    obtain ⟨i, hi, hyi⟩ := List.getElem_of_mem hy
    rw [t4] at hi
    refine e3 (m + i) (by omega) (by omega) y ?_
    rw [show m + i - m = i by omega, ← hyi]
    simp
  have g2 : ∀ y ∈ B.drop (e - m), leP x y := by
    intro y hy
    obtain ⟨i, hi, hyi⟩ := List.getElem_of_mem hy
    rw [List.length_drop] at hi
    intro hlt
    refine e4 (m + (e - m + i)) (by omega) (by omega) ?_
    intro z hz
    rw [show m + (e - m + i) - m = e - m + i by omega] at hz
    rw [← hyi] at hlt
    rw [List.getElem?_eq_getElem (by omega), Option.some_inj] at hz
    rw [← hz]
    simpa using hlt
  generalize B.take (e - m) = B1 at *
  generalize B.drop (e - m) = B2 at *
  subst t3
  have hs1 := List.pairwise_append.mp hs
  have l2 := fun s => l77c (callF tbl pu (k + 7)) (k + 7) L e P (B2 ++ S) x hL B1 [] (k + 7) false (by rw [hl2]; simp; omega) (by simp; omega) (by simp at hl2; omega) s
  refine ⟨B1 ++ x :: B2, !B1.isEmpty, ?_, ?_, ?_, ?_⟩
  · exact (List.perm_middle (a := x) (l₁ := B1) (l₂ := B2))
  · exact List.pairwise_append.mpr ⟨hs1.1, List.pairwise_cons.mpr ⟨g2, hs1.2.1⟩, fun u hu v hv => by
      rcases List.mem_cons.mp hv with rfl | hv
      · exact ltP_le (g1 u hu)
      · exact hs1.2.2 u hu v hv⟩
  · cases B1 <;> simp
  · have w1 : IntKind.i64.wrap ((m : Int) - a) = 1 := by rw [wrap64 (by omega) (by omega)]; omega
    simp only [List.append_assoc, List.singleton_append] at e5 ⊢
    rw [callF_eq tbl77, Ytcfijihoepkgeaa.c77]
    simp [execC_loop, -kIter_succ, -tidy, w1]
    rw [e5 _ _ (by simp at hl2 eb; omega) (by simp [D77, bk])]
    simp [D77, execC_loop, -kIter_succ, -tidy]
    rw [l2 _ (by simp [C77, bk, ea])]
    simp [C77]
theorem d77y (K L a m b : Nat) (P A S : List Pt) (y : Pt) (el : L = (P ++ (A ++ ([y] ++ S))).length) (ea : a = P.length) (em : m = P.length + A.length) (eb : b = P.length + A.length + 1) (hL : L ≤ 100000) (hK : L + 10 ≤ K) (hA : A.length ≠ 1) (hs : Srt A) : Merged K L a m b P A [y] S := by
  obtain ⟨k, rfl⟩ : ∃ k, K = k + 7 + 1 := ⟨K - 8, by omega⟩
  have hl2 : L = P.length + (A.length + (1 + S.length)) := by rw [el]; simp; omega
  have gA : ∀ c, a ≤ c → c < m → ∃ x, A[c - a]? = some x ∧ (P ++ (A ++ ([y] ++ S)))[c]? = some x := by
    intro c h1 h2
    refine ⟨A[c - a]'(by omega), by simp, ?_⟩
    rw [List.getElem?_append_right (by omega), List.getElem?_append_left (by omega)]
    rw [show c - P.length = c - a by omega]
    simp
  have gy : (P ++ (A ++ ([y] ++ S)))[m]? = some y := by
    rw [List.getElem?_append_right (by omega), List.getElem?_append_right (by omega)]
    simp [em]
  obtain ⟨e, e1, e2, e3, e4, e5⟩ := bsearch (pre := tidy [0, 2, 4, 14, 15] 1) (f := execC (callF tbl pu (k + 7)) pu 1 (k + 7) c77_b2) (fun i j => B77 (vsL (P ++ (A ++ ([y] ++ S)))) L m i j false) (fun c => ∀ x, A[c - a]? = some x → leP x y) a m
    (by
      intro c c' h1 h2 h3 hq x hx
      obtain ⟨x', hx', _⟩ := gA c' (by omega) h3
      exact leP_trans (srt_get hs (by omega) hx hx') (hq x' hx'))
    (by
      intro i j h1 h2 h3 hq
      obtain ⟨x, hx, hx'⟩ := gA ((i + j) / 2) (by omega) (by omega)
      have := s77b k (vsL (P ++ (A ++ ([y] ++ S)))) L m i j ((i + j) / 2) false y x (by rw [vsL_length, ← el]) rfl h2 (vsL_get hx') (vsL_get gy) (by omega) (by omega) (by omega) hL
      rw [if_pos (fun h => hq x hx ((cmp3_neg _ _).mp h))] at this
      exact this)
    (by
      intro i j h1 h2 h3 hq
      obtain ⟨x, hx, hx'⟩ := gA ((i + j) / 2) (by omega) (by omega)
      have := s77b k (vsL (P ++ (A ++ ([y] ++ S)))) L m i j ((i + j) / 2) false y x (by rw [vsL_length, ← el]) rfl h2 (vsL_get hx') (vsL_get gy) (by omega) (by omega) (by omega) hL
      rw [if_neg (fun h => hq (by intro z hz; rw [hx] at hz; cases hz; exact fun hl => h ((cmp3_neg _ _).mpr hl)))] at this
      exact this)
    _ (fun i => e77b _ _ _ L m i false) (by simp) _ a m rfl (by omega) (by omega) (by omega) (by intro c h1 h2; omega) (by intro c h1 h2; omega)
  have t3 := List.take_append_drop (e - a) A
  have t4 : (A.take (e - a)).length = e - a := by simp; omega
  have g1 : ∀ x ∈ A.take (e - a), leP x y := by
    intro x hx
    obtain ⟨i, hi, hxi⟩ := List.getElem_of_mem hx
    rw [t4] at hi
    refine e3 (a + i) (by omega) (by omega) x ?_
    rw [show a + i - a = i by omega, ← hxi]
    simp
  have g2 : ∀ x ∈ A.drop (e - a), leP y x := by
    intro x hx
    obtain ⟨i, hi, hxi⟩ := List.getElem_of_mem hx
    rw [List.length_drop] at hi
    intro hlt
    refine e4 (a + (e - a + i)) (by omega) (by omega) ?_
    intro z hz
    rw [show a + (e - a + i) - a = e - a + i by omega] at hz
    rw [← hxi] at hlt
    rw [List.getElem?_eq_getElem (by omega), Option.some_inj] at hz
    rw [← hz]
    simp only [List.getElem_drop] at hlt
    exact ltP_le hlt
  generalize A.take (e - a) = A1 at *
  generalize A.drop (e - a) = A2 at *
  subst t3
  have hs1 := List.pairwise_append.mp hs
  have l2 := fun s => l77a (callF tbl pu (k + 7)) (k + 7) L e (P ++ A1) S y hL (by simp; omega) A2.length A2 [] (k + 7) false rfl (by rw [hl2]; simp; omega) (by simp at hl2; omega) s
  refine ⟨A1 ++ y :: A2, !A2.isEmpty, ?_, ?_, ?_, ?_⟩
  · simp only [List.append_assoc]
    exact List.Perm.append_left _ (List.perm_append_singleton y A2).symm
  · exact List.pairwise_append.mpr ⟨hs1.1, List.pairwise_cons.mpr ⟨g2, hs1.2.1⟩, fun u hu v hv => by
      rcases List.mem_cons.mp hv with rfl | hv
      · exact g1 u hu
      · exact hs1.2.2 u hu v hv⟩
  · cases A2 <;> simp
  · have hm1 : m - a ≠ 1 := by omega
    have w1 : IntKind.i64.wrap ((m : Int) - a) = ((m - a : Nat) : Int) := by rw [wrap64 (by omega) (by omega)]; omega
    have w1' : ¬ ((m - a : Nat) : Int) = 1 := by omega
    have w2 : IntKind.i64.wrap ((b : Int) - m) = 1 := by rw [wrap64 (by omega) (by omega)]; omega
    have em' : m = P.length + (A1.length + A2.length) := by rw [em]; simp
    have hq : m - a < k + 7 := by omega
    generalize m - a = q at *
    simp only [List.append_assoc, List.singleton_append, List.nil_append] at e5 l2 ⊢
    rw [callF_eq tbl77, Ytcfijihoepkgeaa.c77]
    simp [execC_loop, -kIter_succ, -tidy, w1, w1', w2]
    rw [e5 _ _ hq (by simp [B77, bk])]
    simp [B77, execC_loop, -kIter_succ, -tidy]
    rw [l2 _ (by simp [A77, bk, em', Nat.add_assoc])]
    simp [A77]
end Go.AM.Ytcfijihoepkgeaa
