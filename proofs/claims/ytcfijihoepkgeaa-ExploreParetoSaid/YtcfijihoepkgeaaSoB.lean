/- Rotating a part of a list of points. -/
import Derived.Test.YtcfijihoepkgeaaSoA
set_option linter.unusedVariables false
set_option linter.unusedSimpArgs false
namespace Go.AM.Ytcfijihoepkgeaa
open Go Go.AM
set_option maxRecDepth 100000
set_option maxHeartbeats 0
/-- a call by reference that is handed the only block -/
def kRet1 : Option (V × Heap × Bool) → Option (V × Eff)
  | none => none
  | some r => (r.1.ren (backG [0] 1)).bind fun v' => (renH (backG [0] 1) r.2.1).map fun Hn => (v', if r.2.2 then .upd (putBack Hn 0 [0] [default] ++ Hn.drop 1) [0] else .new (Hn.drop 1))
theorem trees_refs : ∀ {xs : List V}, xs.all V.tree = true → refsL xs = []
  | [], _ => rfl
  | v :: xs, h => by
    simp only [List.all_cons, Bool.and_eq_true] at h
    simp [refsL, refs_tree h.1, trees_refs h.2]
theorem trees_ren {g : Nat → Option Nat} : ∀ {xs : List V}, xs.all V.tree = true → renL g xs = some xs
  | [], _ => rfl
  | v :: xs, h => by
    simp only [List.all_cons, Bool.and_eq_true] at h
    simp [renL, ren_tree h.1, trees_ren h.2]
theorem callV_one {call : CallT} {pure : FuncId → Bool} {f : FuncId} {z L o n z' fz : Nat} {es : List (List V)} {fl : Bool} {xs : List V} (hp : pure f = false) (ha : xs.all V.tree = true) :
    callV call pure [⟨z', es, fz, false, fl⟩] f (.sl z 0 L o n :: xs) = kRet1 (call f (.sl z 0 L o n :: xs) [⟨z', es, fz, false, fl⟩]) := by
  simp [callV, hp, trees_refs ha, trees_ren ha]
  cases call f (.sl z 0 L o n :: xs) [⟨z', es, fz, false, fl⟩] with
  | none => rfl
  | some r => 
    obtain ⟨v, Hn, d⟩ := r
    simp [kRet1, putBack]
theorem kRet1_upd {l : List Pt} : kRet1 (some (.tup [], [bk l], true)) = some (.tup [], .upd [bk l] [0]) := by
  simp [kRet1, bk, renH, backG, putBack]
theorem kRet1_new {l : List Pt} : kRet1 (some (.tup [], [bk l], false)) = some (.tup [], .new []) := by
  simp [kRet1, bk, renH, backG, putBack]
theorem callV_bk {call : CallT} {pure : FuncId → Bool} {f : FuncId} {z L o n : Nat} {l : List Pt} {xs : List V} (hp : pure f = false) (ha : xs.all V.tree = true) :
    callV call pure [bk l] f (.sl z 0 L o n :: xs) = kRet1 (call f (.sl z 0 L o n :: xs) [bk l]) := callV_one hp ha
theorem bren_bk {g : Nat → Option Nat} {l : List Pt} : (bk l).ren g = some (bk l) := by simp [bk]
theorem d98' (K : Nat) (P X W Y S : List Pt) (hXY : X.length = Y.length) (hL : (P ++ (X ++ (W ++ (Y ++ S)))).length ≤ 100000) (hX : X ≠ []) (hK : X.length + 2 ≤ K) (L a b n : Nat) (el : L = (P ++ (X ++ (W ++ (Y ++ S)))).length) (ea : a = P.length) (eb : b = P.length + X.length + W.length) (en : n = X.length) :
    callF tbl pu K 98 [.sl 4 0 L 0 L, .int .i64 a, .int .i64 b, .int .i64 n, .fn 34 []] [bk (P ++ (X ++ (W ++ (Y ++ S))))] =
      some (.tup [], [bk (P ++ (Y ++ (W ++ (X ++ S))))], true) := by
  subst el ea eb en
  have := d98 (K - X.length - 2) P X W Y S hXY hL hX
  rwa [show K - X.length - 2 + X.length + 2 = K by omega] at this
theorem bk_box {l : List Pt} : (bk l).box = false := rfl
attribute [simp] bk_box bren_bk kRet1_upd kRet1_new
def T89 (l : List Pt) (L m i j : Nat) (d : Bool) : St :=
  ⟨[.sl 4 0 L 0 L, .undef, .int .i64 m, .undef, .fn 34 [], .undef, .undef, .undef, .undef, .undef, .int .i64 i, .int .i64 j] ++ List.replicate 46 .undef, [bk l], d⟩
theorem p98 : pu 98 = false := by decide
theorem s89a (k : Nat) (l l' : List Pt) (L m i j : Nat) (d : Bool) (hij : j < i) (him : i ≤ m) (hm : m ≤ 100000) (h : callF tbl pu k 98 [.sl 4 0 L 0 L, .int .i64 (m - i : Nat), .int .i64 m, .int .i64 j, .fn 34 []] [bk l] = some (.tup [], [bk l'], true)) :
    kNext (tidy [0, 2, 4, 10, 11] 1) (execC (callF tbl pu k) pu 1 k c89_b0 (T89 l L m i j d)) = some (T89 l' L m (i - j) j true) := by
  have w1 : IntKind.i64.wrap ((m : Int) - i) = ((m - i : Nat) : Int) := by rw [wrap64 (by omega) (by omega)]; omega
  have w2 : IntKind.i64.wrap ((i : Int) - j) = ((i - j : Nat) : Int) := by rw [wrap64 (by omega) (by omega)]; omega
  have n1 : ¬ (i : Int) = j := by omega
  have n2 : i ≠ j := by omega
  have n3 : (j : Int) < i := by omega
  generalize m - i = q at *
  generalize i - j = r at *
  simp [T89, c89_b0, w1, w2, n1, n2, n3, hij, callV_bk, p98, h, kRet1_upd, bren_bk]
theorem s89b (k : Nat) (l l' : List Pt) (L m i j : Nat) (d : Bool) (hij : i < j) (him : i ≤ m) (hm : m + j ≤ 100000) (h : callF tbl pu k 98 [.sl 4 0 L 0 L, .int .i64 (m - i : Nat), .int .i64 (m + j - i : Nat), .int .i64 i, .fn 34 []] [bk l] = some (.tup [], [bk l'], true)) :
    kNext (tidy [0, 2, 4, 10, 11] 1) (execC (callF tbl pu k) pu 1 k c89_b0 (T89 l L m i j d)) = some (T89 l' L m i (j - i) true) := by
  have w1 : IntKind.i64.wrap ((m : Int) - i) = ((m - i : Nat) : Int) := by rw [wrap64 (by omega) (by omega)]; omega
  have w2 : IntKind.i64.wrap ((j : Int) - i) = ((j - i : Nat) : Int) := by rw [wrap64 (by omega) (by omega)]; omega
  have w3 : IntKind.i64.wrap ((m : Int) + j) = (m : Int) + j := by rw [wrap64 (by omega) (by omega)]
  have w4 : IntKind.i64.wrap ((m : Int) + j - i) = ((m + j - i : Nat) : Int) := by rw [wrap64 (by omega) (by omega)]; omega
  have n1 : ¬ (i : Int) = j := by omega
  have n2 : i ≠ j := by omega
  have n3 : ¬ (j : Int) < i := by omega
  have n4 : ¬ j < i := by omega
  generalize m - i = q at *
  generalize j - i = r at *
  generalize m + j - i = t at *
  simp [T89, c89_b0, w1, w2, w3, w4, n1, n2, n3, n4, hij, callV_bk, p98, h]
def Z89 (l : List Pt) (L m i : Nat) : St := ⟨((T89 l L m i i true).fr.set 18 (.int .i64 i) |>.set 19 (.int .i64 i) |>.set 20 (.bool false)), [bk l], true⟩
theorem e89 (call : CallT) (k : Nat) (l : List Pt) (L m i : Nat) (d : Bool) : execC call pu 1 k c89_b0 (T89 l L m i i d) = some (.exit 0, ⟨(Z89 l L m i).fr, [bk l], d⟩) := by
  simp [T89, Z89, c89_b0, bk]
theorem l89 (k L m : Nat) (hL : L ≤ 100000) (hk : L + 2 ≤ k) : ∀ (N : Nat) (P X Y S : List Pt) (M : Nat) (s : St) (d : Bool), X.length + Y.length ≤ N → X ≠ [] → Y ≠ [] → L = (P ++ (X ++ (Y ++ S))).length → m = P.length + X.length → N < M →
    tidy [0, 2, 4, 10, 11] 1 s = some (T89 (P ++ (X ++ (Y ++ S))) L m X.length Y.length d) →
    ∃ P' X' Y' S' d', X' ≠ [] ∧ X'.length = Y'.length ∧ P' ++ (Y' ++ (X' ++ S')) = P ++ (Y ++ (X ++ S)) ∧ m = P'.length + X'.length ∧ L = (P' ++ (X' ++ (Y' ++ S'))).length ∧
      iter (tidy [0, 2, 4, 10, 11] 1) (execC (callF tbl pu k) pu 1 k c89_b0) M s = some (.exit 0, ⟨(Z89 (P' ++ (X' ++ (Y' ++ S'))) L m X'.length).fr, [bk (P' ++ (X' ++ (Y' ++ S')))], d'⟩)
  | 0, P, X, Y, S, M, s, d, hN, hX, hY, _, _, _, _ => by
    have := List.length_pos_iff.mpr hX
    omega
  | N + 1, P, X, Y, S, M + 1, s, d, hN, hX, hY, hl, hm, hM, hs => by
    have lX := List.length_pos_iff.mpr hX
    have lY := List.length_pos_iff.mpr hY
    have hl2 : L = P.length + (X.length + (Y.length + S.length)) := by simpa using hl
    rcases Nat.lt_trichotomy X.length Y.length with hlt | heq | hgt
    · -- i < j
      have t1 : (Y.take (Y.length - X.length)).length = Y.length - X.length := by simp
      have t2 : (Y.drop (Y.length - X.length)).length = X.length := by simp; omega
      have t3 := List.take_append_drop (Y.length - X.length) Y
      generalize Y.take (Y.length - X.length) = Y1 at *
      generalize Y.drop (Y.length - X.length) = Y2 at *
      subst t3
      have hc := d98' k P X Y1 Y2 S t2.symm (by simp at *; omega) hX (by omega) L (m - X.length) (m + (Y1 ++ Y2).length - X.length) X.length (by rw [hl]; simp) (by omega) (by simp; omega) rfl
      have hst := s89b k (P ++ (X ++ (Y1 ++ (Y2 ++ S)))) (P ++ (Y2 ++ (Y1 ++ (X ++ S)))) L m X.length (Y1 ++ Y2).length d hlt (by omega) (by omega) hc
      have g : P ++ (X ++ (Y1 ++ Y2 ++ S)) = P ++ (X ++ (Y1 ++ (Y2 ++ S))) := by simp
      rw [g] at hs
      obtain ⟨s', h1, h2⟩ := kNext_some hst
      obtain ⟨P', X', Y', S', d', r1, r2, r3, r4, r5, r6⟩ := l89 k L m hL hk N P Y2 Y1 (X ++ S) M s' true (by simp at *; omega) (by intro h; subst h; simp at *; omega) (by intro h; subst h; simp at *; omega) (by rw [hl]; simp; omega) (by omega) (by omega)
        (by rw [h2]; simp at *; rw [← t2]; congr 1; omega)
      refine ⟨P', X', Y', S', d', r1, r2, by rw [r3]; simp, r4, r5, ?_⟩
      exact iter_go hs hst fun s'' hs'' => by
        rw [← r6]
        cases M with
        | zero => rfl
        | succ M => simp only [iter, h2, hs'']
    · have e1 := e89 (callF tbl pu k) k (P ++ (X ++ (Y ++ S))) L m X.length d
      rw [← heq] at hs
      exact ⟨P, X, Y, S, d, hX, heq, rfl, hm, hl, iter_end hs e1 (by simp)⟩
    · have t1 : (X.take Y.length).length = Y.length := by simp; omega
      have t2 : (X.drop Y.length).length = X.length - Y.length := by simp
      have t3 := List.take_append_drop Y.length X
      generalize X.take Y.length = X1 at *
      generalize X.drop Y.length = X2 at *
      subst t3
      have hc := d98' k P X1 X2 Y S t1 (by simp at *; omega) (by intro h; subst h; simp at *; omega) (by omega) L (m - (X1 ++ X2).length) m Y.length (by rw [hl]; simp) (by omega) (by simp at *; omega) t1.symm
      have hst := s89a k (P ++ (X1 ++ (X2 ++ (Y ++ S)))) (P ++ (Y ++ (X2 ++ (X1 ++ S)))) L m (X1 ++ X2).length Y.length d hgt (by omega) (by omega) hc
      have g : P ++ (X1 ++ X2 ++ (Y ++ S)) = P ++ (X1 ++ (X2 ++ (Y ++ S))) := by simp
      rw [g] at hs
      obtain ⟨s', h1, h2⟩ := kNext_some hst
      obtain ⟨P', X', Y', S', d', r1, r2, r3, r4, r5, r6⟩ := l89 k L m hL hk N (P ++ Y) X2 X1 S M s' true (by simp at *; omega) (by intro h; subst h; simp at *; omega) (by intro h; subst h; simp at *; omega) (by rw [hl]; simp; omega) (by simp at *; omega) (by omega)
        (by rw [h2, t1, t2]; simp)
      refine ⟨P', X', Y', S', d', r1, r2, by rw [r3]; simp, r4, r5, ?_⟩
      exact iter_go hs hst fun s'' hs'' => by
        rw [← r6]
        cases M with
        | zero => rfl
        | succ M => simp only [iter, h2, hs'']
theorem d89 (K : Nat) (P X Y S : List Pt) (hX : X ≠ []) (hY : Y ≠ []) (L a m b : Nat) (el : L = (P ++ (X ++ (Y ++ S))).length) (ea : a = P.length) (em : m = P.length + X.length) (eb : b = P.length + X.length + Y.length) (hL : L ≤ 100000) (hK : L + 3 ≤ K) :
    callF tbl pu K 89 [.sl 4 0 L 0 L, .int .i64 a, .int .i64 m, .int .i64 b, .fn 34 []] [bk (P ++ (X ++ (Y ++ S)))] =
      some (.tup [], [bk (P ++ (Y ++ (X ++ S)))], true) := by
  obtain ⟨k, rfl⟩ : ∃ k, K = k + 1 := ⟨K - 1, by omega⟩
  have hl2 : L = P.length + (X.length + (Y.length + S.length)) := by simpa using el
  have w1 : IntKind.i64.wrap ((m : Int) - a) = (X.length : Int) := by rw [wrap64 (by omega) (by omega)]; omega
  have w2 : IntKind.i64.wrap ((b : Int) - m) = (Y.length : Int) := by rw [wrap64 (by omega) (by omega)]; omega
  rw [callF_eq tbl89, Ytcfijihoepkgeaa.c89]
  simp [execC_loop, -kIter_succ, -tidy, w1, w2]
  obtain ⟨P', X', Y', S', d', r1, r2, r3, r4, r5, r6⟩ := l89 k L m hL (by omega) _ P X Y S k ⟨[.sl 4 0 L 0 L, .int .i64 a, .int .i64 m, .int .i64 b, .fn 34 [], .undef, .undef, .undef, .undef, .undef, .int .i64 X.length, .int .i64 Y.length, .int .i64 m, .int .i64 a, .int .i64 X.length, .int .i64 b, .int .i64 m, .int .i64 Y.length] ++ List.replicate 40 .undef, [bk (P ++ (X ++ (Y ++ S)))], false⟩ false (Nat.le_refl _) hX hY el em (by omega) (by simp [T89])
  simp only [List.replicate, List.append, List.cons_append, List.nil_append] at r6
  rw [r6]
  have hc := d98' k P' X' [] Y' S' r2 (by simp at *; omega) r1 (by simp at *; omega) L (m - X'.length) m X'.length (by rw [r5]; simp) (by omega) (by simp; omega) rfl
  have w3 : IntKind.i64.wrap ((m : Int) - X'.length) = ((m - X'.length : Nat) : Int) := by rw [wrap64 (by omega) (by omega)]; omega
  simp only [List.nil_append] at hc
  rw [r3] at hc
  generalize m - X'.length = q at *
  simp [Z89, T89, callV_bk, p98, w3, hc]
end Go.AM.Ytcfijihoepkgeaa
