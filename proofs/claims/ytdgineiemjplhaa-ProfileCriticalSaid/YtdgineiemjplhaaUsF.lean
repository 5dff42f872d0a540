/- jacquardref28.Valid: the rounds of its loops. -/
import Derived.Test.YtdgineiemjplhaaUsE
set_option linter.unusedVariables false
set_option linter.unusedSimpArgs false
namespace Go.AM.Ytdgineiemjplhaa
open Go Go.AM
set_option maxRecDepth 100000
set_option maxHeartbeats 0
def T11e (ins par : Int) (loop : Bool) (va vr vn : V) (n m j : Nat) (d : Bool) : St := ⟨[.undef, .ptr 0 1 0 0, .undef, .int .i64 ((n : Int) + 2), .undef, .undef, .undef, .undef, .undef, .undef, .undef, .undef, .undef, .undef, .undef, .undef, .undef, .undef, .undef, .undef, .undef, .undef, .undef, .undef, .undef, .undef, .undef, .undef, .undef, .undef, .undef, .undef, .undef, .undef, .undef, .undef, .undef, .undef, .undef, .undef, .undef, .undef, .undef, .undef, .undef, .undef, .undef, .int .i64 m, .int .i64 j, .undef, .undef, .undef, .undef, .undef, .undef, .undef, .undef, .undef, .undef, .undef, .undef, .undef, .undef, .undef, .undef, .undef, .undef, .undef, .undef, .undef, .undef, .undef, .undef, .undef, .undef, .undef, .undef, .undef, .undef, .undef, .undef, .undef, .undef, .undef, .undef, .undef, .undef, .undef, .undef, .undef, .undef, .undef, .undef, .undef, .undef, .undef, .undef, .undef, .undef, .undef, .undef, .undef, .undef, .undef, .undef, .undef, .undef, .undef, .undef, .undef, .undef, .undef, .undef, .undef, .undef, .undef, .undef, .undef, .undef, .undef, .undef, .undef, .undef, .undef, .undef, .undef, .undef, .undef, .undef, .undef, .undef, .undef, .undef, .undef, .undef, .undef, .undef, .undef, .undef, .undef, .undef, .undef, .undef, .undef, .undef, .undef, .undef, .undef, .undef, .undef, .undef, .undef, .undef, .undef, .undef, .undef, .undef, .undef, .undef, .undef, .undef, .undef, .undef, .undef, .undef, .undef, .undef, .undef, .undef, .undef, .undef, .undef, .undef, .undef, .undef, .undef, .undef, .undef, .undef, .undef, .undef, .undef, .undef, .undef, .undef, .undef, .undef, .undef, .undef, .undef, .undef, .undef, .undef, .undef, .undef, .undef, .undef, .undef, .undef, .undef, .undef, .undef, .undef, .undef, .undef, .undef, .undef, .undef, .undef, .undef, .undef, .undef, .undef, .undef, .undef, .undef, .undef, .undef, .undef, .undef, .undef, .undef, .undef, .undef, .undef, .undef, .undef, .undef, .undef, .undef, .undef, .undef, .undef, .undef, .undef, .undef, .undef, .undef, .undef, .undef, .undef, .undef, .undef, .undef, .undef, .undef, .undef, .undef, .undef, .undef, .undef, .undef, .undef, .undef, .undef, .undef, .undef, .undef, .undef, .undef, .undef, .undef, .undef, .undef, .undef, .undef, .undef, .undef, .undef, .undef, .undef, .undef, .undef, .undef, .undef], [bxF ins par loop va vr vn], d⟩
def T11d (ins par : Int) (loop : Bool) (va vr vn : V) (n j : Nat) (d : Bool) : St := ⟨[.undef, .ptr 0 1 0 0, .undef, .int .i64 ((n : Int) + 2), .undef, .undef, .undef, .undef, .undef, .undef, .undef, .undef, .undef, .undef, .undef, .undef, .undef, .undef, .undef, .undef, .undef, .undef, .undef, .undef, .undef, .undef, .undef, .undef, .undef, .undef, .undef, .undef, .undef, .undef, .undef, .undef, .undef, .undef, .undef, .undef, .undef, .undef, .undef, .undef, .undef, .undef, .undef, .undef, .undef, .undef, .undef, .undef, .undef, .undef, .undef, .undef, .undef, .undef, .undef, .undef, .undef, .undef, .undef, .undef, .undef, .undef, .undef, .undef, .undef, .undef, .undef, .undef, .undef, .undef, .undef, .undef, .undef, .undef, .undef, .undef, .undef, .undef, .undef, .undef, .undef, .undef, .undef, .undef, .undef, .undef, .undef, .undef, .undef, .undef, .undef, .undef, .undef, .undef, .undef, .undef, .undef, .undef, .undef, .undef, .undef, .undef, .undef, .undef, .undef, .undef, .undef, .undef, .undef, .undef, .undef, .undef, .int .i64 ((n : Int) + 1), .int .i64 j, .undef, .undef, .undef, .undef, .undef, .undef, .undef, .undef, .undef, .undef, .undef, .undef, .undef, .undef, .undef, .undef, .undef, .undef, .undef, .undef, .undef, .undef, .undef, .undef, .undef, .undef, .undef, .undef, .undef, .undef, .undef, .undef, .undef, .undef, .undef, .undef, .undef, .undef, .undef, .undef, .undef, .undef, .undef, .undef, .undef, .undef, .undef, .undef, .undef, .undef, .undef, .undef, .undef, .undef, .undef, .undef, .undef, .undef, .undef, .undef, .undef, .undef, .undef, .undef, .undef, .undef, .undef, .undef, .undef, .undef, .undef, .undef, .undef, .undef, .undef, .undef, .undef, .undef, .undef, .undef, .undef, .undef, .undef, .undef, .undef, .undef, .undef, .undef, .undef, .undef, .undef, .undef, .undef, .undef, .undef, .undef, .undef, .undef, .undef, .undef, .undef, .undef, .undef, .undef, .undef, .undef, .undef, .undef, .undef, .undef, .undef, .undef, .undef, .undef, .undef, .undef, .undef, .undef, .undef, .undef, .undef, .undef, .undef, .undef, .undef, .undef, .undef, .undef, .undef, .undef, .undef, .undef, .undef, .undef, .undef, .undef, .undef, .undef, .undef, .undef, .undef, .undef, .undef, .undef, .undef, .undef, .undef, .undef, .undef, .undef, .undef, .undef, .undef, .undef, .undef, .undef, .undef], [bxF ins par loop va vr vn], d⟩
def T11c (ins par : Int) (loop : Bool) (va vr vn : V) (n m j : Nat) (d : Bool) : St := ⟨[.undef, .ptr 0 1 0 0, .undef, .int .i64 ((n : Int) + 2), .undef, .undef, .undef, .undef, .undef, .undef, .undef, .undef, .undef, .undef, .undef, .undef, .undef, .undef, .undef, .undef, .undef, .undef, .undef, .undef, .undef, .undef, .undef, .undef, .undef, .undef, .undef, .undef, .undef, .undef, .undef, .undef, .undef, .undef, .undef, .undef, .undef, .undef, .undef, .undef, .undef, .undef, .undef, .undef, .undef, .undef, .undef, .undef, .undef, .undef, .undef, .undef, .undef, .undef, .undef, .undef, .undef, .undef, .undef, .undef, .undef, .undef, .undef, .undef, .undef, .undef, .undef, .undef, .undef, .undef, .undef, .undef, .undef, .undef, .undef, .undef, .undef, .undef, .undef, .undef, .undef, .undef, .undef, .undef, .undef, .undef, .undef, .undef, .undef, .undef, .undef, .undef, .undef, .undef, .undef, .undef, .undef, .undef, .undef, .undef, .undef, .undef, .undef, .undef, .undef, .undef, .undef, .undef, .undef, .undef, .undef, .undef, .undef, .undef, .undef, .undef, .undef, .undef, .undef, .undef, .undef, .undef, .undef, .undef, .undef, .undef, .undef, .undef, .undef, .undef, .undef, .undef, .undef, .undef, .undef, .undef, .int .i64 m, .int .i64 j, .undef, .undef, .undef, .undef, .undef, .undef, .undef, .undef, .undef, .undef, .undef, .undef, .undef, .undef, .undef, .undef, .undef, .undef, .undef, .undef, .undef, .undef, .undef, .undef, .undef, .undef, .undef, .undef, .undef, .undef, .undef, .undef, .undef, .undef, .undef, .undef, .undef, .undef, .undef, .undef, .undef, .undef, .undef, .undef, .undef, .undef, .undef, .undef, .undef, .undef, .undef, .undef, .undef, .undef, .undef, .undef, .undef, .undef, .undef, .undef, .undef, .undef, .undef, .undef, .undef, .undef, .undef, .undef, .undef, .undef, .undef, .undef, .undef, .undef, .undef, .undef, .undef, .undef, .undef, .undef, .undef, .undef, .undef, .undef, .undef, .undef, .undef, .undef, .undef, .undef, .undef, .undef, .undef, .undef, .undef, .undef, .undef, .undef, .undef, .undef, .undef, .undef, .undef, .undef, .undef, .undef, .undef, .undef, .undef, .undef, .undef, .undef, .undef, .undef, .undef, .undef, .undef, .undef, .undef, .undef, .undef, .undef, .undef, .undef, .undef, .undef, .undef, .undef, .undef, .undef, .undef, .undef, .undef], [bxF ins par loop va vr vn], d⟩
def T11b (ins par : Int) (loop : Bool) (va vr vn : V) (n j : Nat) (d : Bool) : St := ⟨[.undef, .ptr 0 1 0 0, .undef, .int .i64 ((n : Int) + 2), .undef, .undef, .undef, .undef, .undef, .undef, .undef, .undef, .undef, .undef, .undef, .undef, .undef, .undef, .undef, .undef, .undef, .undef, .undef, .undef, .undef, .undef, .undef, .undef, .undef, .undef, .undef, .undef, .undef, .undef, .undef, .undef, .undef, .undef, .undef, .undef, .undef, .undef, .undef, .undef, .undef, .undef, .undef, .undef, .undef, .undef, .undef, .undef, .undef, .undef, .undef, .undef, .undef, .undef, .undef, .undef, .undef, .undef, .undef, .undef, .undef, .undef, .undef, .undef, .undef, .undef, .undef, .undef, .undef, .undef, .undef, .undef, .undef, .undef, .undef, .undef, .undef, .undef, .undef, .undef, .undef, .undef, .undef, .undef, .undef, .undef, .undef, .undef, .undef, .undef, .undef, .undef, .undef, .undef, .undef, .undef, .undef, .undef, .undef, .undef, .undef, .undef, .undef, .undef, .undef, .undef, .undef, .undef, .undef, .undef, .undef, .undef, .undef, .undef, .undef, .undef, .undef, .undef, .undef, .undef, .undef, .undef, .undef, .undef, .undef, .undef, .undef, .undef, .undef, .undef, .undef, .undef, .undef, .undef, .undef, .undef, .undef, .undef, .undef, .undef, .undef, .undef, .undef, .undef, .undef, .undef, .undef, .undef, .undef, .undef, .undef, .undef, .undef, .undef, .undef, .undef, .undef, .undef, .undef, .undef, .undef, .undef, .undef, .undef, .undef, .undef, .undef, .undef, .undef, .undef, .undef, .undef, .undef, .undef, .undef, .undef, .int .i64 n, .int .i64 j, .undef, .undef, .undef, .undef, .undef, .undef, .undef, .undef, .undef, .undef, .undef, .undef, .undef, .undef, .undef, .undef, .undef, .undef, .undef, .undef, .undef, .undef, .undef, .undef, .undef, .undef, .undef, .undef, .undef, .undef, .undef, .undef, .undef, .undef, .undef, .undef, .undef, .undef, .undef, .undef, .undef, .undef, .undef, .undef, .undef, .undef, .undef, .undef, .undef, .undef, .undef, .undef, .undef, .undef, .undef, .undef, .undef, .undef, .undef, .undef, .undef, .undef, .undef, .undef, .undef, .undef, .undef, .undef, .undef, .undef, .undef, .undef, .undef, .undef, .undef, .undef, .undef, .undef, .undef, .undef, .undef, .undef, .undef, .undef, .undef, .undef, .undef, .undef, .undef, .undef, .undef, .undef, .undef], [bxF ins par loop va vr vn], d⟩
def T11a (ins par : Int) (loop : Bool) (va vr vn : V) (m j : Nat) (d : Bool) : St := ⟨[.undef, .ptr 0 1 0 0, .undef, .undef, .undef, .undef, .undef, .undef, .undef, .undef, .undef, .undef, .undef, .undef, .undef, .undef, .undef, .undef, .undef, .undef, .undef, .undef, .undef, .undef, .undef, .undef, .undef, .undef, .undef, .undef, .undef, .undef, .undef, .undef, .undef, .undef, .undef, .undef, .undef, .undef, .undef, .undef, .undef, .undef, .undef, .undef, .undef, .undef, .undef, .undef, .undef, .undef, .undef, .undef, .undef, .undef, .undef, .undef, .undef, .undef, .undef, .undef, .undef, .undef, .undef, .undef, .undef, .undef, .undef, .undef, .undef, .undef, .undef, .undef, .undef, .undef, .undef, .undef, .undef, .undef, .undef, .undef, .undef, .undef, .undef, .undef, .undef, .undef, .undef, .undef, .undef, .undef, .undef, .undef, .undef, .undef, .undef, .undef, .undef, .undef, .undef, .undef, .undef, .undef, .undef, .undef, .undef, .undef, .undef, .undef, .undef, .undef, .undef, .undef, .undef, .undef, .undef, .undef, .undef, .undef, .undef, .undef, .undef, .undef, .undef, .undef, .undef, .undef, .undef, .undef, .undef, .undef, .undef, .undef, .undef, .undef, .undef, .undef, .undef, .undef, .undef, .undef, .undef, .undef, .undef, .undef, .undef, .undef, .undef, .undef, .undef, .undef, .undef, .undef, .undef, .undef, .undef, .undef, .undef, .undef, .undef, .undef, .undef, .undef, .undef, .undef, .undef, .undef, .undef, .undef, .undef, .undef, .undef, .undef, .undef, .undef, .undef, .undef, .undef, .undef, .undef, .undef, .undef, .undef, .undef, .undef, .undef, .undef, .undef, .undef, .undef, .undef, .undef, .undef, .undef, .undef, .undef, .undef, .undef, .undef, .undef, .undef, .undef, .undef, .undef, .undef, .undef, .undef, .undef, .undef, .undef, .undef, .undef, .undef, .undef, .undef, .undef, .undef, .undef, .undef, .undef, .undef, .undef, .undef, .undef, .undef, .undef, .undef, .undef, .int .i64 m, .int .i64 j, .undef, .undef, .undef, .undef, .undef, .undef, .undef, .undef, .undef, .undef, .undef, .undef, .undef, .undef, .undef, .undef, .undef, .undef, .undef, .undef, .undef, .undef, .undef, .undef, .undef, .undef, .undef, .undef, .undef, .undef, .undef, .undef, .undef, .undef, .undef, .undef, .undef, .undef, .undef, .undef, .undef, .undef, .undef, .undef], [bxF ins par loop va vr vn], d⟩
section
variable (k : Nat) (ins par : Int) (loop : Bool)
section
variable (call : CallT) (es : List (List V)) (vr vn : V) (n m j : Nat) (a : Arc) (d : Bool) (hm : es.length = m) (hx : es[j]? = some a.vs) (hj : j < m) (hb : m ≤ 1000000000) (hb2 : n ≤ 1000000000) (tr : vr.tree = true) (tn : vn.tree = true)
include hm hx hj hb hb2 tr tn
theorem s11e (h : arcB n (if loop then 256 else 0) a) :
    kNext (tidy [1, 3, 47, 48] 0) (execC call pu 0 k c7_b4 (T11e ins par loop (.tsl 4 es) vr vn n m j d)) = some (T11e ins par loop (.tsl 4 es) vr vn n m (j + 1) true) := by
  unfold arcB at h
  simp only [btw_iff] at h
  have wj : IntKind.i64.wrap ((j : Int) + 1) = (j : Int) + 1 := wrap64 (by omega) (by omega)
  have w1 : IntKind.i64.wrap ((n : Int) + 2 - 1) = (n : Int) + 1 := by rw [wrap64 (by omega) (by omega)]; omega
  have kr := V.cell_of_tree tr
  have kn := V.cell_of_tree tn
  subst hm
  rw [List.getElem?_eq_getElem hj, Option.some_inj] at hx
  unfold Arc.vs at hx
  have c1 : ¬ a.fr < 0 := by omega
  have c2 : ¬ (n : Int) + 1 ≤ a.fr := by omega
  have c3 : ¬ a.to < 0 := by omega
  have c4 : ¬ (n : Int) + 2 ≤ a.to := by omega
  have c5 : ¬ a.lat < 0 := by omega
  have c6 : ¬ 4096 < a.lat := by omega
  have c7 : ¬ a.di < 0 := by omega
  by_cases c9 : 0 < a.di
  · cases loop with
    | false => simp at h; omega
    | true =>
      have c8 : ¬ 256 < a.di := by simp at h; omega
      simp [T11e, bxF, c7_b4, hj, hx, wj, w1, kr, kn, tr, tn, c1, c2, c3, c4, c5, c6, c7, c8, c9]
  · have c8 : ¬ 256 < a.di := by omega
    simp [T11e, bxF, c7_b4, hj, hx, wj, w1, kr, kn, tr, tn, c1, c2, c3, c4, c5, c6, c7, c8, c9]
theorem r11e (hbad : ¬ arcB n (if loop then 256 else 0) a) : retF 2 (execC call pu 0 k c7_b4 (T11e ins par loop (.tsl 4 es) vr vn n m j d)) := by
  unfold arcB at hbad
  simp only [btw_iff] at hbad
  have w1 : IntKind.i64.wrap ((n : Int) + 2 - 1) = (n : Int) + 1 := by rw [wrap64 (by omega) (by omega)]; omega
  have kr := V.cell_of_tree tr
  have kn := V.cell_of_tree tn
  subst hm
  rw [List.getElem?_eq_getElem hj, Option.some_inj] at hx
  unfold Arc.vs at hx
  by_cases c1 : a.fr < 0
  · simp [T11e, bxF, c7_b4, hj, hx, kr, kn, tr, tn, w1, c1]
  by_cases c2 : (n : Int) + 1 ≤ a.fr
  · simp [T11e, bxF, c7_b4, hj, hx, kr, kn, tr, tn, w1, c1, c2]
  by_cases c3 : a.to < 0
  · simp [T11e, bxF, c7_b4, hj, hx, kr, kn, tr, tn, w1, c1, c2, c3]
  by_cases c4 : (n : Int) + 2 ≤ a.to
  · simp [T11e, bxF, c7_b4, hj, hx, kr, kn, tr, tn, w1, c1, c2, c3, c4]
  by_cases c5 : a.lat < 0
  · simp [T11e, bxF, c7_b4, hj, hx, kr, kn, tr, tn, w1, c1, c2, c3, c4, c5]
  by_cases c6 : 4096 < a.lat
  · simp [T11e, bxF, c7_b4, hj, hx, kr, kn, tr, tn, w1, c1, c2, c3, c4, c5, c6]
  by_cases c7 : a.di < 0
  · simp [T11e, bxF, c7_b4, hj, hx, kr, kn, tr, tn, w1, c1, c2, c3, c4, c5, c6, c7]
  by_cases c8 : 256 < a.di
  · simp [T11e, bxF, c7_b4, hj, hx, kr, kn, tr, tn, w1, c1, c2, c3, c4, c5, c6, c7, c8]
  by_cases c9 : 0 < a.di
  · cases loop with
    | false => simp [T11e, bxF, c7_b4, hj, hx, kr, kn, tr, tn, w1, c1, c2, c3, c4, c5, c6, c7, c8, c9]
    | true => exact absurd ⟨by omega, by omega, by omega, by simp; omega⟩ hbad
  · exact absurd ⟨by omega, by omega, by omega, by cases loop <;> simp <;> omega⟩ hbad
end
section
variable (es : List (List V)) (vr vn : V) (n v : Nat) (a : Arc) (d : Bool) (hx : es[v]? = some a.vs) (hv : v ≤ n) (hvl : v < es.length) (hb : n ≤ 1000000000) (tr : vr.tree = true) (tn : vn.tree = true) (w1 : IntKind.i64.wrap (ins + par) = n)
include hx hv hvl hb tr tn w1
theorem s11d (h : f1B n v a) :
    kNext (tidy [1, 3, 116, 117] 0) (execC (callF tbl pu (k + 1)) pu 0 (k + 1) c7_b3 (T11d ins par loop (.tsl 4 es) vr vn n v d)) = some (T11d ins par loop (.tsl 4 es) vr vn n (v + 1) d) := by
  obtain ⟨c1, c2, c3, c4⟩ := h
  have wv : IntKind.i64.wrap ((v : Int) + 1) = (v : Int) + 1 := wrap64 (by omega) (by omega)
  have w2 : IntKind.i64.wrap ((n : Int) + 1) = (n : Int) + 1 := wrap64 (by omega) (by omega)
  have kr := V.cell_of_tree tr
  have kn := V.cell_of_tree tn
  have h18 := d15 k ins par loop (.tsl 4 es) vr vn rfl tr tn
  rw [w1] at h18
  rw [List.getElem?_eq_getElem hvl, Option.some_inj] at hx
  have hlt : (v : Int) < (n : Int) + 1 := by omega
  unfold Arc.vs at hx
  by_cases e : v = n
  · subst e
    rw [if_pos rfl] at c2
    simp [T11d, bxF, c7_b3, c7_r1, c7_a1, hlt, hvl, hx, wv, w2, kr, kn, tr, tn, callV_pu, h18, c1, c2, c3, c4, eqL, eqV]
  · have e' : ¬ n ≤ v := by omega
    rw [if_neg e] at c2
    simp [T11d, bxF, c7_b3, c7_r1, c7_a1, hlt, hvl, hx, wv, kr, kn, tr, tn, callV_pu, h18, e, e', c1, c2, c3, c4, eqL, eqV]
theorem r11d (hbad : ¬ f1B n v a) :
    retF 2 (execC (callF tbl pu (k + 1)) pu 0 (k + 1) c7_b3 (T11d ins par loop (.tsl 4 es) vr vn n v d)) := by
  have w2 : IntKind.i64.wrap ((n : Int) + 1) = (n : Int) + 1 := wrap64 (by omega) (by omega)
  have kr := V.cell_of_tree tr
  have kn := V.cell_of_tree tn
  have h18 := d15 k ins par loop (.tsl 4 es) vr vn rfl tr tn
  rw [w1] at h18
  rw [List.getElem?_eq_getElem hvl, Option.some_inj] at hx
  have hlt : (v : Int) < (n : Int) + 1 := by omega
  unfold Arc.vs at hx
  unfold f1B at hbad
  by_cases e : v = n
  · subst e
    rw [if_pos rfl] at hbad
    have hb2 : (!decide (a.fr = v) || (!decide (a.to = (v : Int) + 1) || (!decide (a.lat = 0) || !decide (a.di = 0)))) = true := by
      simp only [Bool.or_eq_true, Bool.not_eq_true', decide_eq_false_iff_not]; omega
    simp [T11d, bxF, c7_b3, c7_r1, c7_a1, hlt, hvl, hx, w2, kr, kn, tr, tn, callV_pu, h18, eqL, eqV]
    simp [hb2]
  · have e' : ¬ n ≤ v := by omega
    rw [if_neg e] at hbad
    have hb2 : (!decide (a.fr = n) || (!decide (a.to = v) || (!decide (a.lat = 0) || !decide (a.di = 0)))) = true := by
      simp only [Bool.or_eq_true, Bool.not_eq_true', decide_eq_false_iff_not]; omega
    simp [T11d, bxF, c7_b3, c7_r1, c7_a1, hlt, hvl, hx, kr, kn, tr, tn, callV_pu, h18, e, e', eqL, eqV]
    simp [hb2]
end
section
variable (call : CallT) (es : List (List V)) (va vn : V) (n m j : Nat) (a : Rs) (d : Bool) (hm : es.length = m) (hx : es[j]? = some a.vs) (hj : j < m) (hb : m ≤ 1000000000) (ta : va.tree = true) (tn : vn.tree = true)
include hm hx hj hb ta tn
theorem s11c (h : resB a) :
    kNext (tidy [1, 3, 140, 141] 0) (execC call pu 0 k c7_b2 (T11c ins par loop va (.tsl 4 es) vn n m j d)) = some (T11c ins par loop va (.tsl 4 es) vn n m (j + 1) d) := by
  unfold resB at h
  simp only [btw_iff] at h
  have wj : IntKind.i64.wrap ((j : Int) + 1) = (j : Int) + 1 := wrap64 (by omega) (by omega)
  have ka := V.cell_of_tree ta
  have kn := V.cell_of_tree tn
  subst hm
  rw [List.getElem?_eq_getElem hj, Option.some_inj] at hx
  unfold Rs.vs at hx
  have c1 : ¬ a.kd < 1 := by omega
  have c2 : ¬ 4 < a.kd := by omega
  have c3 : ¬ a.ct < 1 := by omega
  have c4 : ¬ 1024 < a.ct := by omega
  simp [T11c, bxF, c7_b2, hj, hx, wj, ka, kn, ta, tn, c1, c2, c3, c4]
theorem r11c (hbad : ¬ resB a) : retF 2 (execC call pu 0 k c7_b2 (T11c ins par loop va (.tsl 4 es) vn n m j d)) := by
  unfold resB at hbad
  simp only [btw_iff] at hbad
  have ka := V.cell_of_tree ta
  have kn := V.cell_of_tree tn
  subst hm
  rw [List.getElem?_eq_getElem hj, Option.some_inj] at hx
  unfold Rs.vs at hx
  by_cases c1 : a.kd < 1
  · simp [T11c, bxF, c7_b2, hj, hx, ka, kn, ta, tn, c1]
  by_cases c2 : 4 < a.kd
  · simp [T11c, bxF, c7_b2, hj, hx, ka, kn, ta, tn, c1, c2]
  by_cases c3 : a.ct < 1
  · simp [T11c, bxF, c7_b2, hj, hx, ka, kn, ta, tn, c1, c2, c3]
  by_cases c4 : 1024 < a.ct
  · simp [T11c, bxF, c7_b2, hj, hx, ka, kn, ta, tn, c1, c2, c3, c4]
  exact absurd ⟨by omega, by omega⟩ hbad
end
end
end Go.AM.Ytdgineiemjplhaa
