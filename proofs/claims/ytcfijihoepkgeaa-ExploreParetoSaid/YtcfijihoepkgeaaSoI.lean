/- SortStableFunc puts a list of at most 60 points in order. -/
import Derived.Test.YtcfijihoepkgeaaSoH
set_option linter.unusedVariables false
set_option linter.unusedSimpArgs false
namespace Go.AM.Ytcfijihoepkgeaa
open Go Go.AM
set_option maxRecDepth 100000
set_option maxHeartbeats 0
/-- a call that changes a list -/
def Runs (K f : Nat) (L : Nat) (xs : List V) (l l' : List Pt) (d : Bool) : Prop := (d = true ∨ l' = l) ∧ callF tbl pu K f (.sl 4 0 L 0 L :: xs) [bk l] = some (.tup [], [bk l'], d)
theorem ins (K : Nat) (P A S : List Pt) (L a b : Nat) (el : L = P.length + A.length + S.length) (ea : a = P.length) (eb : b = P.length + A.length) (hL : L ≤ 60) (hK : 150 ≤ K) :
    ∃ C d, C.Perm A ∧ Srt C ∧ C.length = A.length ∧ Runs K 76 L [.int .i64 a, .int .i64 b, .fn 34 []] (P ++ (A ++ S)) (P ++ (C ++ S)) d := by
  obtain ⟨C, d, h1, h2, h3, h4⟩ := d76 K P A S L a b (by rw [el]; simp; omega) ea eb (by omega) (by omega)
  exact ⟨C, d, h1, h2, h1.length_eq, h3.imp id fun h => by rw [h], h4⟩
theorem mrg (K : Nat) (P A B S : List Pt) (L a m b : Nat) (hA : A ≠ []) (hB : B ≠ []) (sA : Srt A) (sB : Srt B) (el : L = P.length + A.length + B.length + S.length) (ea : a = P.length) (em : m = P.length + A.length) (eb : b = P.length + A.length + B.length) (hL : L ≤ 60) (hK : 150 ≤ K) :
    ∃ C d, C.Perm (A ++ B) ∧ Srt C ∧ C.length = A.length + B.length ∧ Runs K 77 L [.int .i64 a, .int .i64 m, .int .i64 b, .fn 34 []] (P ++ (A ++ (B ++ S))) (P ++ (C ++ S)) d := by
  obtain ⟨C, d, h1, h2, h3, h4⟩ := d77 _ K L a m b P A B S rfl hA hB sA sB (by rw [el]; simp; omega) ea em eb (by omega) (by omega)
  exact ⟨C, d, h1, h2, by rw [h1.length_eq]; simp, h3.imp id fun h => by rw [h]; simp, h4⟩
def Sorted (K f n : Nat) (xs : List V) (l : List Pt) : Prop := ∃ C d, C.Perm l ∧ Srt C ∧ Runs K f n xs l C d
theorem or2d {d1 d2 : Bool} {l l1 l2 : List Pt} (h1 : d1 = true ∨ l1 = l) (h2 : d2 = true ∨ l2 = l1) : (d1 || d2) = true ∨ l2 = l := by
  cases d1 <;> cases d2 <;> simp_all
theorem x54a (k : Nat) (n : Nat) (hn : n < 20) (l0 l1 : List Pt) (d1 : Bool) (h1 : Runs (k + 199) 76 n [.int .i64 0, .int .i64 n, .fn 34 []] l0 l1 d1) : Runs (k + 200) 54 n [.int .i64 n, .fn 34 []] l0 l1 (d1) := by
  have c0 : ¬ (20 : Int) ≤ n := by omega
  have c1 : ¬ (20 : Int) < n := by omega
  obtain ⟨f1, h1⟩ := h1
  refine ⟨?_, ?_⟩
  · clear h1
    exact f1
  · rw [callF_eq tbl54, Ytcfijihoepkgeaa.c54]
    simp [execC_loop, c54_b2, c54_b1, c54_b0, callV_bk, p76, p77, kcall, c0, c1, f1, h1]
theorem x54b0 (k : Nat) (l0 l1 l2 : List Pt) (d1 d2 : Bool) (h1 : Runs (k + 199) 76 20 [.int .i64 0, .int .i64 20, .fn 34 []] l0 l1 d1) (h2 : Runs (k + 199) 76 20 [.int .i64 20, .int .i64 20, .fn 34 []] l1 l2 d2) : Runs (k + 200) 54 20 [.int .i64 20, .fn 34 []] l0 l2 (d1 || d2) := by

  obtain ⟨f1, h1⟩ := h1
  obtain ⟨f2, h2⟩ := h2
  refine ⟨?_, ?_⟩
  · clear h1 h2
    exact or2d f1 f2
  · rw [callF_eq tbl54, Ytcfijihoepkgeaa.c54]
    simp [execC_loop, c54_b2, c54_b1, c54_b0, callV_bk, p76, p77, kcall, f1, f2, h1, h2]
theorem x54b (k : Nat) (n : Nat) (hn : 20 < n ∧ n < 40) (l0 l1 l2 l3 : List Pt) (d1 d2 d3 : Bool) (h1 : Runs (k + 199) 76 n [.int .i64 0, .int .i64 20, .fn 34 []] l0 l1 d1) (h2 : Runs (k + 199) 76 n [.int .i64 20, .int .i64 n, .fn 34 []] l1 l2 d2) (h3 : Runs (k + 199) 77 n [.int .i64 0, .int .i64 20, .int .i64 n, .fn 34 []] l2 l3 d3) : Runs (k + 200) 54 n [.int .i64 n, .fn 34 []] l0 l3 (d1 || d2 || d3) := by
  have c0 : (20 : Int) ≤ n := by omega
  have c1 : ¬ (40 : Int) ≤ n := by omega
  have c2 : (20 : Int) < n := by omega
  have c3 : ¬ (40 : Int) < n := by omega
  obtain ⟨f1, h1⟩ := h1
  obtain ⟨f2, h2⟩ := h2
  obtain ⟨f3, h3⟩ := h3
  refine ⟨?_, ?_⟩
  · clear h1 h2 h3
    exact or2d (or2d f1 f2) f3
  · rw [callF_eq tbl54, Ytcfijihoepkgeaa.c54]
    simp [execC_loop, c54_b2, c54_b1, c54_b0, callV_bk, p76, p77, kcall, c0, c1, c2, c3, f1, f2, f3, h1, h2, h3]
theorem x54c0 (k : Nat) (l0 l1 l2 l3 l4 : List Pt) (d1 d2 d3 d4 : Bool) (h1 : Runs (k + 199) 76 40 [.int .i64 0, .int .i64 20, .fn 34 []] l0 l1 d1) (h2 : Runs (k + 199) 76 40 [.int .i64 20, .int .i64 40, .fn 34 []] l1 l2 d2) (h3 : Runs (k + 199) 76 40 [.int .i64 40, .int .i64 40, .fn 34 []] l2 l3 d3) (h4 : Runs (k + 199) 77 40 [.int .i64 0, .int .i64 20, .int .i64 40, .fn 34 []] l3 l4 d4) : Runs (k + 200) 54 40 [.int .i64 40, .fn 34 []] l0 l4 (d1 || d2 || d3 || d4) := by

  obtain ⟨f1, h1⟩ := h1
  obtain ⟨f2, h2⟩ := h2
  obtain ⟨f3, h3⟩ := h3
  obtain ⟨f4, h4⟩ := h4
  refine ⟨?_, ?_⟩
  · clear h1 h2 h3 h4
    exact or2d (or2d (or2d f1 f2) f3) f4
  · rw [callF_eq tbl54, Ytcfijihoepkgeaa.c54]
    simp [execC_loop, c54_b2, c54_b1, c54_b0, callV_bk, p76, p77, kcall, f1, f2, f3, f4, h1, h2, h3, h4]
theorem x54c (k : Nat) (n : Nat) (hn : 40 < n ∧ n < 60) (l0 l1 l2 l3 l4 l5 : List Pt) (d1 d2 d3 d4 d5 : Bool) (h1 : Runs (k + 199) 76 n [.int .i64 0, .int .i64 20, .fn 34 []] l0 l1 d1) (h2 : Runs (k + 199) 76 n [.int .i64 20, .int .i64 40, .fn 34 []] l1 l2 d2) (h3 : Runs (k + 199) 76 n [.int .i64 40, .int .i64 n, .fn 34 []] l2 l3 d3) (h4 : Runs (k + 199) 77 n [.int .i64 0, .int .i64 20, .int .i64 40, .fn 34 []] l3 l4 d4) (h5 : Runs (k + 199) 77 n [.int .i64 0, .int .i64 40, .int .i64 n, .fn 34 []] l4 l5 d5) : Runs (k + 200) 54 n [.int .i64 n, .fn 34 []] l0 l5 (d1 || d2 || d3 || d4 || d5) := by
  have c0 : (20 : Int) ≤ n := by omega
  have c1 : (40 : Int) ≤ n := by omega
  have c2 : ¬ (60 : Int) ≤ n := by omega
  have c3 : (20 : Int) < n := by omega
  have c4 : (40 : Int) < n := by omega
  have c5 : ¬ (80 : Int) ≤ n := by omega
  have c6 : ¬ (80 : Int) < n := by omega
  have c7 : ¬ (60 : Int) < n := by omega
  obtain ⟨f1, h1⟩ := h1
  obtain ⟨f2, h2⟩ := h2
  obtain ⟨f3, h3⟩ := h3
  obtain ⟨f4, h4⟩ := h4
  obtain ⟨f5, h5⟩ := h5
  refine ⟨?_, ?_⟩
  · clear h1 h2 h3 h4 h5
    exact or2d (or2d (or2d (or2d f1 f2) f3) f4) f5
  · rw [callF_eq tbl54, Ytcfijihoepkgeaa.c54]
    simp [execC_loop, c54_b2, c54_b1, c54_b0, callV_bk, p76, p77, kcall, c0, c1, c2, c3, c4, c5, c6, c7, f1, f2, f3, f4, f5, h1, h2, h3, h4, h5]
theorem x54d (k : Nat) (l0 l1 l2 l3 l4 l5 l6 : List Pt) (d1 d2 d3 d4 d5 d6 : Bool) (h1 : Runs (k + 199) 76 60 [.int .i64 0, .int .i64 20, .fn 34 []] l0 l1 d1) (h2 : Runs (k + 199) 76 60 [.int .i64 20, .int .i64 40, .fn 34 []] l1 l2 d2) (h3 : Runs (k + 199) 76 60 [.int .i64 40, .int .i64 60, .fn 34 []] l2 l3 d3) (h4 : Runs (k + 199) 76 60 [.int .i64 60, .int .i64 60, .fn 34 []] l3 l4 d4) (h5 : Runs (k + 199) 77 60 [.int .i64 0, .int .i64 20, .int .i64 40, .fn 34 []] l4 l5 d5) (h6 : Runs (k + 199) 77 60 [.int .i64 0, .int .i64 40, .int .i64 60, .fn 34 []] l5 l6 d6) : Runs (k + 200) 54 60 [.int .i64 60, .fn 34 []] l0 l6 (d1 || d2 || d3 || d4 || d5 || d6) := by

  obtain ⟨f1, h1⟩ := h1
  obtain ⟨f2, h2⟩ := h2
  obtain ⟨f3, h3⟩ := h3
  obtain ⟨f4, h4⟩ := h4
  obtain ⟨f5, h5⟩ := h5
  obtain ⟨f6, h6⟩ := h6
  refine ⟨?_, ?_⟩
  · clear h1 h2 h3 h4 h5 h6
    exact or2d (or2d (or2d (or2d (or2d f1 f2) f3) f4) f5) f6
  · rw [callF_eq tbl54, Ytcfijihoepkgeaa.c54]
    simp [execC_loop, c54_b2, c54_b1, c54_b0, callV_bk, p76, p77, kcall, f1, f2, f3, f4, f5, f6, h1, h2, h3, h4, h5, h6]
theorem split20 {l : List Pt} {t : Nat} (h : t ≤ l.length) : ∃ A B, A ++ B = l ∧ A.length = t ∧ B.length = l.length - t := ⟨l.take t, l.drop t, List.take_append_drop t l, by simp; omega, by simp⟩
/-- a stable sort of at most 60 points -/
theorem d54 (k : Nat) (l : List Pt) (n : Nat) (hn : l.length = n) (h : n ≤ 60) : ∃ C d, C.Perm l ∧ Srt C ∧ Runs (k + 200) 54 n [.int .i64 n, .fn 34 []] l C d := by
  by_cases g1 : n < 20
  · obtain ⟨C, d, h1, h2, h3, h4⟩ := ins (k + 199) [] l [] n 0 n (by simp [hn]) rfl (by simp [hn]) (by omega) (by omega)
    simp only [List.nil_append, List.append_nil] at h4
    exact ⟨C, _, h1, h2, x54a k n g1 _ _ _ h4⟩
  by_cases g2 : n < 40
  · obtain ⟨A, B, rfl, lA, lB⟩ := split20 (l := l) (t := 20) (by omega)
    simp only [List.length_append] at hn lB
    obtain ⟨A', d1, a1, a2, a3, a4⟩ := ins (k + 199) [] A B n 0 20 (by simp; omega) rfl (by simp; omega) (by omega) (by omega)
    obtain ⟨B', d2, b1, b2, b3, b4⟩ := ins (k + 199) A' B [] n 20 n (by simp; omega) (by omega) (by omega) (by omega) (by omega)
    simp only [List.nil_append, List.append_nil] at a4 b4
    by_cases e : n = 20
    · have hB : B = [] := List.eq_nil_of_length_eq_zero (by omega)
      have hB' : B' = [] := List.eq_nil_of_length_eq_zero (by omega)
      subst e hB hB'
      exact ⟨_, _, a1.append b1, by simpa using a2, x54b0 k _ _ _ _ _ a4 b4⟩
    · obtain ⟨C, d3, f1, f2, f3, f4⟩ := mrg (k + 199) [] A' B' [] n 0 20 n (by intro h; subst h; simp at a3; omega) (by intro h; subst h; simp at b3; omega) a2 b2 (by simp; omega) rfl (by simp; omega) (by simp; omega) (by omega) (by omega)
      simp only [List.nil_append, List.append_nil] at f4
      exact ⟨_, _, f1.trans (a1.append b1), f2, x54b k n (by omega) _ _ _ _ _ _ _ a4 b4 f4⟩
  obtain ⟨A, R, rfl, lA, lR⟩ := split20 (l := l) (t := 20) (by omega)
  obtain ⟨B, D, rfl, lB, lD⟩ := split20 (l := R) (t := 20) (by omega)
  simp only [List.length_append] at hn lR lD
  obtain ⟨A', d1, a1, a2, a3, a4⟩ := ins (k + 199) [] A (B ++ D) n 0 20 (by simp; omega) rfl (by simp; omega) (by omega) (by omega)
  obtain ⟨B', d2, b1, b2, b3, b4⟩ := ins (k + 199) A' B D n 20 40 (by omega) (by omega) (by omega) (by omega) (by omega)
  simp only [List.nil_append, List.append_nil] at a4 b4
  by_cases e : n = 60
  · subst e
    obtain ⟨D', d3, c1, c2, c3, c4⟩ := ins (k + 199) (A' ++ B') D [] 60 40 60 (by simp; omega) (by simp; omega) (by simp; omega) (by omega) (by omega)
    obtain ⟨E', d4, u1, u2, u3, u4⟩ := ins (k + 199) (A' ++ B' ++ D') [] [] 60 60 60 (by simp; omega) (by simp; omega) (by simp; omega) (by omega) (by omega)
    have hE : E' = [] := List.eq_nil_of_length_eq_zero (by simpa using u3)
    subst hE
    obtain ⟨F, d5, f1, f2, f3, f4⟩ := mrg (k + 199) [] A' B' D' 60 0 20 40 (by intro h; subst h; simp at a3; omega) (by intro h; subst h; simp at b3; omega) a2 b2 (by simp; omega) rfl (by simp; omega) (by simp; omega) (by omega) (by omega)
    obtain ⟨C, d6, v1, v2, v3, v4⟩ := mrg (k + 199) [] F D' [] 60 0 40 60 (by intro h; subst h; simp at f3; omega) (by intro h; subst h; simp at c3; omega) f2 c2 (by simp; omega) rfl (by simp; omega) (by simp; omega) (by omega) (by omega)
    simp only [List.nil_append, List.append_nil, List.append_assoc] at c4 u4 f4 v4
    refine ⟨C, _, ?_, v2, x54d k _ _ _ _ _ _ _ _ _ _ _ _ _ a4 b4 c4 u4 f4 v4⟩
    rw [← List.append_assoc]
    exact v1.trans ((f1.trans (a1.append b1)).append c1)
  · by_cases e : n = 40
    · subst e
      have hD : D = [] := List.eq_nil_of_length_eq_zero (by omega)
      subst hD
      obtain ⟨E', d4, u1, u2, u3, u4⟩ := ins (k + 199) (A' ++ B') [] [] 40 40 40 (by simp; omega) (by simp; omega) (by simp; omega) (by omega) (by omega)
      have hE : E' = [] := List.eq_nil_of_length_eq_zero (by simpa using u3)
      subst hE
      obtain ⟨F, d5, f1, f2, f3, f4⟩ := mrg (k + 199) [] A' B' [] 40 0 20 40 (by intro h; subst h; simp at a3; omega) (by intro h; subst h; simp at b3; omega) a2 b2 (by simp; omega) rfl (by simp; omega) (by simp; omega) (by omega) (by omega)
      simp only [List.nil_append, List.append_nil, List.append_assoc] at a4 b4 u4 f4
      refine ⟨F, _, ?_, f2, x54c0 k _ _ _ _ _ _ _ _ _ (by simpa using a4) (by simpa using b4) u4 f4⟩
      simpa using f1.trans (a1.append b1)
    · obtain ⟨D', d3, c1, c2, c3, c4⟩ := ins (k + 199) (A' ++ B') D [] n 40 n (by simp; omega) (by simp; omega) (by simp; omega) (by omega) (by omega)
      obtain ⟨F, d5, f1, f2, f3, f4⟩ := mrg (k + 199) [] A' B' D' n 0 20 40 (by intro h; subst h; simp at a3; omega) (by intro h; subst h; simp at b3; omega) a2 b2 (by simp; omega) rfl (by simp; omega) (by simp; omega) (by omega) (by omega)
      obtain ⟨C, d6, v1, v2, v3, v4⟩ := mrg (k + 199) [] F D' [] n 0 40 n (by intro h; subst h; simp at f3; omega) (by intro h; subst h; simp at c3; omega) f2 c2 (by simp; omega) rfl (by simp; omega) (by simp; omega) (by omega) (by omega)
      simp only [List.nil_append, List.append_nil, List.append_assoc] at c4 f4 v4
      refine ⟨C, _, ?_, v2, x54c k n (by omega) _ _ _ _ _ _ _ _ _ _ _ a4 b4 c4 f4 v4⟩
      rw [← List.append_assoc]
      exact v1.trans ((f1.trans (a1.append b1)).append c1)
theorem p54 : pu 54 = false := by decide
theorem d33 (k : Nat) (l : List Pt) (h : l.length ≤ 60) : ∃ C d, C.Perm l ∧ Srt C ∧ (d = true ∨ C = l) ∧ callF tbl pu (k + 201) 33 [.sl 4 0 l.length 0 l.length, .fn 34 []] [bk l] = some (.tup [], [bk C], d) := by
  obtain ⟨C, d, h1, h2, h3, h4⟩ := d54 k l l.length rfl h
  refine ⟨C, d, h1, h2, h3, ?_⟩
  rw [callF_eq tbl33, Ytcfijihoepkgeaa.c33]
  simp [callV_bk, p54, h4, kcall, h3]
/-- an empty one that has no memory -/
theorem d33n (k : Nat) : callF tbl pu (k + 10) 33 [.nils, .fn 34 []] [] = some (.tup [], [], false) := by kernel_rfl
end Go.AM.Ytcfijihoepkgeaa
