/- jacquardref28.Valid: the rounds of its loops. -/
import Derived.Test.YtdgineiemjplhaaUsF
set_option linter.unusedVariables false
set_option linter.unusedSimpArgs false
namespace Go.AM.Ytdgineiemjplhaa
open Go Go.AM
set_option maxRecDepth 100000
set_option maxHeartbeats 0
section
variable (k : Nat) (ins par : Int) (loop : Bool)
section
variable (es : List (List V)) (vr : V) (rs : List (List V)) (vn : V) (n v : Nat) (a : Arc) (x : Nd) (d : Bool) (hx : es[n + 1 + v]? = some a.vs) (hv : v < n) (hvl : n + 1 + v < es.length) (hb : n ≤ 1000000000) (tr : vr.tree = true) (hn : Sl 2 rs vn) (w1 : IntKind.i64.wrap (ins + par) = n) (hr : (v : Int) < ins → rs[v]? = some x.vs)
include hx hv hvl hb tr hn w1 hr
theorem s11b (h : f2B ins n v x.bu a) :
    kNext (tidy [1, 3, 180, 181] 0) (execC (callF tbl pu (k + 1)) pu 0 (k + 1) c7_b1 (T11b ins par loop (.tsl 4 es) vr vn n v d)) = some (T11b ins par loop (.tsl 4 es) vr vn n (v + 1) true) := by
  obtain ⟨c1, c2, c3, c4⟩ := h
  have wv : IntKind.i64.wrap ((v : Int) + 1) = (v : Int) + 1 := wrap64 (by omega) (by omega)
  have w2 : IntKind.i64.wrap ((n : Int) + 1) = (n : Int) + 1 := wrap64 (by omega) (by omega)
  have w3 : IntKind.i64.wrap ((n : Int) + 2 - 1) = (n : Int) + 1 := by rw [wrap64 (by omega) (by omega)]; omega
  have w4 : IntKind.i64.wrap ((n : Int) + 1 + v) = ((n + 1 + v : Nat) : Int) := by rw [wrap64 (by omega) (by omega)]; omega
  have kr := V.cell_of_tree tr
  have tn := hn.tree
  have kn := hn.cell
  have h19 := d16 k ins par loop (.tsl 4 es) vr vn rfl tr tn
  rw [w1, w2] at h19
  rw [List.getElem?_eq_getElem hvl, Option.some_inj] at hx
  generalize n + 1 + v = q at *
  unfold Arc.vs at hx
  by_cases e : (v : Int) < ins
  · have c4 := c4 e
    have hr := hr e
    obtain ⟨hrl, hr⟩ := List.getElem?_eq_some_iff.mp hr
    obtain rfl := hn.tsl hrl
    unfold Nd.vs at hr
    simp (maxSteps := 3000000) [T11b, bxF, c7_b1, c7_r0, c7_a0, hv, hvl, hx, wv, w3, w4, kr, tr, callV_pu, h19, c1, c2, c3, c4, e, hrl, hr]
  · simp (maxSteps := 3000000) [T11b, bxF, c7_b1, c7_r0, c7_a0, hv, hvl, hx, wv, w3, w4, kr, kn, tr, tn, callV_pu, h19, c1, c2, c3, e]
theorem r11b (hbad : ¬ f2B ins n v x.bu a) :
    retF 2 (execC (callF tbl pu (k + 1)) pu 0 (k + 1) c7_b1 (T11b ins par loop (.tsl 4 es) vr vn n v d)) := by
  have w2 : IntKind.i64.wrap ((n : Int) + 1) = (n : Int) + 1 := wrap64 (by omega) (by omega)
  have w3 : IntKind.i64.wrap ((n : Int) + 2 - 1) = (n : Int) + 1 := by rw [wrap64 (by omega) (by omega)]; omega
  have w4 : IntKind.i64.wrap ((n : Int) + 1 + v) = ((n + 1 + v : Nat) : Int) := by rw [wrap64 (by omega) (by omega)]; omega
  have kr := V.cell_of_tree tr
  have tn := hn.tree
  have kn := hn.cell
  have h19 := d16 k ins par loop (.tsl 4 es) vr vn rfl tr tn
  rw [w1, w2] at h19
  rw [List.getElem?_eq_getElem hvl, Option.some_inj] at hx
  generalize n + 1 + v = q at *
  unfold Arc.vs at hx
  by_cases c1 : a.fr = v
  rotate_left
  · simp [T11b, bxF, c7_b1, c7_r0, c7_a0, hv, hvl, hx, w3, w4, kr, kn, tr, tn, callV_pu, h19, c1]
  by_cases c2 : a.to = (n : Int) + 1
  rotate_left
  · simp [T11b, bxF, c7_b1, c7_r0, c7_a0, hv, hvl, hx, w3, w4, kr, kn, tr, tn, callV_pu, h19, c1, c2]
  by_cases c3 : a.di = 0
  rotate_left
  · simp [T11b, bxF, c7_b1, c7_r0, c7_a0, hv, hvl, hx, w3, w4, kr, kn, tr, tn, callV_pu, h19, c1, c2, c3]
  by_cases e : (v : Int) < ins
  · by_cases c4 : a.lat < imax 1 x.bu
    · have hr := hr e
      obtain ⟨hrl, hr⟩ := List.getElem?_eq_some_iff.mp hr
      obtain rfl := hn.tsl hrl
      unfold Nd.vs at hr
      simp [T11b, bxF, c7_b1, c7_r0, c7_a0, hv, hvl, hx, w3, w4, kr, tr, callV_pu, h19, c1, c2, c3, c4, e, hrl, hr]
    · exact absurd ⟨c1, c2, c3, fun _ => c4⟩ hbad
  · exact absurd ⟨c1, c2, c3, fun h => absurd h e⟩ hbad
end
section
variable (call : CallT) (es rs : List (List V)) (va vr : V) (m j : Nat) (a : Nd) (d : Bool) (hm : es.length = m) (hx : es[j]? = some a.vs) (hj : j < m) (hb : m ≤ 1000000000) (ta : va.tree = true) (hr : Sl 4 rs vr) (hrb : rs.length ≤ 1000000000)
include hm hx hj hb ta hr hrb
theorem s11a (h : ndB rs.length a) :
    kNext (tidy [1, 229, 230] 0) (execC call pu 0 k c7_b0 (T11a ins par loop va vr (.tsl 2 es) m j d)) = some (T11a ins par loop va vr (.tsl 2 es) m (j + 1) true) := by
  unfold ndB at h
  simp only [btw_iff] at h
  have wj : IntKind.i64.wrap ((j : Int) + 1) = (j : Int) + 1 := wrap64 (by omega) (by omega)
  have ka := V.cell_of_tree ta
  have tr := hr.tree
  have kr := hr.cell
  have sr := hr.lst
  have lr := hr.len
  subst hm
  rw [List.getElem?_eq_getElem hj, Option.some_inj] at hx
  unfold Nd.vs at hx
  have c1 : ¬ a.rs < -1 := by omega
  have c2 : ¬ (rs.length : Int) ≤ a.rs := by omega
  by_cases c3 : a.rs = -1
  · have c4 : a.bu = 0 := by omega
    have c2' : ¬ (rs.length : Int) ≤ -1 := by omega
    simp (maxSteps := 3000000) [T11a, bxF, c7_b0, hj, hx, wj, ka, kr, ta, tr, kLen_lst, sr, lr, c2', c3, c4]
  · have c5 : 0 ≤ a.rs := by omega
    have c6 : ¬ a.bu < 1 := by omega
    have c7 : ¬ 256 < a.bu := by omega
    simp (maxSteps := 3000000) [T11a, bxF, c7_b0, hj, hx, wj, ka, kr, ta, tr, kLen_lst, sr, lr, c1, c2, c3, c5, c6, c7]
theorem r11a (hbad : ¬ ndB rs.length a) : retF 2 (execC call pu 0 k c7_b0 (T11a ins par loop va vr (.tsl 2 es) m j d)) := by
  unfold ndB at hbad
  simp only [btw_iff] at hbad
  have ka := V.cell_of_tree ta
  have tr := hr.tree
  have kr := hr.cell
  have sr := hr.lst
  have lr := hr.len
  subst hm
  rw [List.getElem?_eq_getElem hj, Option.some_inj] at hx
  unfold Nd.vs at hx
  by_cases c1 : a.rs < -1
  · simp [T11a, bxF, c7_b0, hj, hx, ka, kr, ta, tr, kLen_lst, sr, lr, c1]
  by_cases c2 : (rs.length : Int) ≤ a.rs
  · simp [T11a, bxF, c7_b0, hj, hx, ka, kr, ta, tr, kLen_lst, sr, lr, c1, c2]
  by_cases c3 : a.rs = -1
  · have c4 : ¬ a.bu = 0 := by omega
    have c2' : ¬ (rs.length : Int) ≤ -1 := by omega
    simp [T11a, bxF, c7_b0, hj, hx, ka, kr, ta, tr, kLen_lst, sr, lr, c2', c3, c4]
  have c5 : 0 ≤ a.rs := by omega
  by_cases c6 : a.bu < 1
  · simp [T11a, bxF, c7_b0, hj, hx, ka, kr, ta, tr, kLen_lst, sr, lr, c1, c2, c3, c5, c6]
  by_cases c7 : 256 < a.bu
  · simp [T11a, bxF, c7_b0, hj, hx, ka, kr, ta, tr, kLen_lst, sr, lr, c1, c2, c3, c5, c6, c7]
  exact absurd (.inr ⟨by omega, by omega⟩) hbad
end
end
end Go.AM.Ytdgineiemjplhaa
