/- dataflow.framed: its rounds, and what it returns. -/
import Derived.Test.YtdgineiemjplhaaUsC
set_option linter.unusedVariables false
set_option linter.unusedSimpArgs false
namespace Go.AM.Ytdgineiemjplhaa
open Go Go.AM
set_option maxRecDepth 100000
set_option maxHeartbeats 0
def T26a (ins par : Int) (loop : Bool) (va vr vn : V) (n v : Nat) (d : Bool) : St := ⟨[.undef, .ptr 0 1 0 0, .undef, .int .i64 n, .undef, .undef, .undef, .undef, .undef, .undef, .undef, .undef, .undef, .undef, .undef, .undef, .undef, .undef, .int .i64 ((n : Int) + 1), .int .i64 v, .undef, .undef, .undef, .undef, .undef, .undef, .undef, .undef, .undef, .undef, .undef, .undef, .undef, .undef, .undef, .undef, .undef, .undef, .undef, .undef, .undef, .undef, .undef, .undef, .undef, .undef, .undef, .undef, .undef, .undef, .undef, .undef, .undef, .undef, .undef, .undef, .undef, .undef, .undef, .undef, .undef, .undef, .undef, .undef, .undef, .undef, .undef, .undef, .undef, .undef, .undef, .undef, .undef, .undef, .undef, .undef, .undef, .undef, .undef, .undef, .undef, .undef, .undef, .undef, .undef], [bxF ins par loop va vr vn], d⟩
def T26b (ins par : Int) (loop : Bool) (va vr vn : V) (n v : Nat) (d : Bool) : St := ⟨[.undef, .ptr 0 1 0 0, .undef, .int .i64 n, .undef, .undef, .undef, .undef, .undef, .undef, .undef, .undef, .undef, .undef, .undef, .undef, .undef, .undef, .undef, .undef, .undef, .undef, .undef, .undef, .undef, .undef, .undef, .undef, .undef, .undef, .undef, .undef, .undef, .undef, .undef, .undef, .undef, .undef, .int .i64 n, .int .i64 v, .undef, .undef, .undef, .undef, .undef, .undef, .undef, .undef, .undef, .undef, .undef, .undef, .undef, .undef, .undef, .undef, .undef, .undef, .undef, .undef, .undef, .undef, .undef, .undef, .undef, .undef, .undef, .undef, .undef, .undef, .undef, .undef, .undef, .undef, .undef, .undef, .undef, .undef, .undef, .undef, .undef, .undef, .undef, .undef, .undef], [bxF ins par loop va vr vn], d⟩
/-- an arc from the source -/
def f1B (n v : Nat) (a : Arc) : Prop := a.fr = n ∧ a.to = (if v = n then (n : Int) + 1 else v) ∧ a.lat = 0 ∧ a.di = 0
section
variable (k : Nat) (ins par : Int) (loop : Bool)
section
variable (es : List (List V)) (vr vn : V) (n v : Nat) (a : Arc) (d : Bool) (hx : es[v]? = some a.vs) (hv : v ≤ n) (hvl : v < es.length) (hb : n ≤ 1000000000) (tr : vr.tree = true) (tn : vn.tree = true) (w1 : IntKind.i64.wrap (ins + par) = n)
include hx hv hvl hb tr tn w1
theorem s26a (h : f1B n v a) :
    kNext (tidy [1, 3, 18, 19] 0) (execC (callF tbl pu (k + 1)) pu 0 (k + 1) c51_b1 (T26a ins par loop (.tsl 4 es) vr vn n v d)) = some (T26a ins par loop (.tsl 4 es) vr vn n (v + 1) d) := by
  obtain ⟨c1, c2, c3, c4⟩ := h
  have wv : IntKind.i64.wrap ((v : Int) + 1) = (v : Int) + 1 := wrap64 (by omega) (by omega)
  have w2 : IntKind.i64.wrap ((n : Int) + 1) = (n : Int) + 1 := wrap64 (by omega) (by omega)
  have kr := V.cell_of_tree tr
  have kn := V.cell_of_tree tn
  have h25 := d50 k ins par loop (.tsl 4 es) vr vn rfl tr tn
  rw [w1, w2] at h25
  rw [List.getElem?_eq_getElem hvl, Option.some_inj] at hx
  have hlt : (v : Int) < (n : Int) + 1 := by omega
  unfold Arc.vs at hx
  by_cases e : v = n
  · subst e
    rw [if_pos rfl] at c2
    simp [T26a, bxF, c51_b1, hlt, hvl, hx, wv, w2, kr, kn, tr, tn, callV_pu, h25, c1, c2, c3, c4, eqL, eqV]
  · have e' : ¬ (v : Int) = n := by omega
    rw [if_neg e] at c2
    simp [T26a, bxF, c51_b1, hlt, hvl, hx, wv, kr, kn, tr, tn, callV_pu, e, e', c1, c2, c3, c4, eqL, eqV]
theorem r26a (hbad : ¬ f1B n v a) :
    retF 2 (execC (callF tbl pu (k + 1)) pu 0 (k + 1) c51_b1 (T26a ins par loop (.tsl 4 es) vr vn n v d)) := by
  have w2 : IntKind.i64.wrap ((n : Int) + 1) = (n : Int) + 1 := wrap64 (by omega) (by omega)
  have kr := V.cell_of_tree tr
  have kn := V.cell_of_tree tn
  have h25 := d50 k ins par loop (.tsl 4 es) vr vn rfl tr tn
  rw [w1, w2] at h25
  rw [List.getElem?_eq_getElem hvl, Option.some_inj] at hx
  have hlt : (v : Int) < (n : Int) + 1 := by omega
  unfold Arc.vs at hx
  unfold f1B at hbad
  by_cases e : v = n
  · subst e
    rw [if_pos rfl] at hbad
    have hb2 : (!decide (a.fr = v) || (!decide (a.to = (v : Int) + 1) || (!decide (a.lat = 0) || !decide (a.di = 0)))) = true := by
      simp only [Bool.or_eq_true, Bool.not_eq_true', decide_eq_false_iff_not]; omega
    simp [T26a, bxF, c51_b1, hlt, hvl, hx, w2, kr, kn, tr, tn, callV_pu, h25, eqL, eqV]
    simp [hb2]
  · have e' : ¬ (v : Int) = n := by omega
    rw [if_neg e] at hbad
    have hb2 : (!decide (a.fr = n) || (!decide (a.to = v) || (!decide (a.lat = 0) || !decide (a.di = 0)))) = true := by
      simp only [Bool.or_eq_true, Bool.not_eq_true', decide_eq_false_iff_not]; omega
    simp [T26a, bxF, c51_b1, hlt, hvl, hx, kr, kn, tr, tn, callV_pu, e, e', eqL, eqV]
    simp [hb2]
end
/-- an arc to the end -/
def f2B (ins : Int) (n v : Nat) (bu : Int) (a : Arc) : Prop := a.fr = v ∧ a.to = (n : Int) + 1 ∧ a.di = 0 ∧ ((v : Int) < ins → ¬ a.lat < imax 1 bu)
section
variable (es : List (List V)) (vr : V) (rs : List (List V)) (vn : V) (n v : Nat) (a : Arc) (x : Nd) (d : Bool) (hx : es[n + 1 + v]? = some a.vs) (hv : v < n) (hvl : n + 1 + v < es.length) (hb : n ≤ 1000000000) (tr : vr.tree = true) (hn : Sl 2 rs vn) (w1 : IntKind.i64.wrap (ins + par) = n) (hr : (v : Int) < ins → rs[v]? = some x.vs)
include hx hv hvl hb tr hn w1 hr
theorem s26b (h : f2B ins n v x.bu a) :
    kNext (tidy [1, 3, 38, 39] 0) (execC (callF tbl pu (k + 1)) pu 0 (k + 1) c51_b0 (T26b ins par loop (.tsl 4 es) vr vn n v d)) = some (T26b ins par loop (.tsl 4 es) vr vn n (v + 1) true) := by
  obtain ⟨c1, c2, c3, c4⟩ := h
  have wv : IntKind.i64.wrap ((v : Int) + 1) = (v : Int) + 1 := wrap64 (by omega) (by omega)
  have w2 : IntKind.i64.wrap ((n : Int) + 1) = (n : Int) + 1 := wrap64 (by omega) (by omega)
  have w3 : IntKind.i64.wrap ((n : Int) + 1 + v) = ((n + 1 + v : Nat) : Int) := by rw [wrap64 (by omega) (by omega)]; omega
  have kr := V.cell_of_tree tr
  have tn := hn.tree
  have kn := hn.cell
  have h25 := d50 k ins par loop (.tsl 4 es) vr vn rfl tr tn
  rw [w1, w2] at h25
  rw [List.getElem?_eq_getElem hvl, Option.some_inj] at hx
  generalize n + 1 + v = q at *
  unfold Arc.vs at hx
  by_cases e : (v : Int) < ins
  · have c4 := c4 e
    have hr := hr e
    obtain ⟨hrl, hr⟩ := List.getElem?_eq_some_iff.mp hr
    obtain rfl := hn.tsl hrl
    unfold Nd.vs at hr
    simp [T26b, bxF, c51_b0, c51_r0, c51_a0, hv, hvl, hx, wv, w2, w3, kr, tr, callV_pu, h25, c1, c2, c3, c4, e, hrl, hr]
  · simp [T26b, bxF, c51_b0, c51_r0, c51_a0, hv, hvl, hx, wv, w2, w3, kr, kn, tr, tn, callV_pu, h25, c1, c2, c3, e]
theorem r26b (hbad : ¬ f2B ins n v x.bu a) :
    retF 2 (execC (callF tbl pu (k + 1)) pu 0 (k + 1) c51_b0 (T26b ins par loop (.tsl 4 es) vr vn n v d)) := by
  have w2 : IntKind.i64.wrap ((n : Int) + 1) = (n : Int) + 1 := wrap64 (by omega) (by omega)
  have w3 : IntKind.i64.wrap ((n : Int) + 1 + v) = ((n + 1 + v : Nat) : Int) := by rw [wrap64 (by omega) (by omega)]; omega
  have kr := V.cell_of_tree tr
  have tn := hn.tree
  have kn := hn.cell
  have h25 := d50 k ins par loop (.tsl 4 es) vr vn rfl tr tn
  rw [w1, w2] at h25
  rw [List.getElem?_eq_getElem hvl, Option.some_inj] at hx
  generalize n + 1 + v = q at *
  unfold Arc.vs at hx
  by_cases c1 : a.fr = v
  rotate_left
  · simp [T26b, bxF, c51_b0, c51_r0, c51_a0, hv, hvl, hx, w2, w3, kr, kn, tr, tn, callV_pu, h25, c1]
  by_cases c2 : a.to = (n : Int) + 1
  rotate_left
  · simp [T26b, bxF, c51_b0, c51_r0, c51_a0, hv, hvl, hx, w2, w3, kr, kn, tr, tn, callV_pu, h25, c1, c2]
  by_cases c3 : a.di = 0
  rotate_left
  · simp [T26b, bxF, c51_b0, c51_r0, c51_a0, hv, hvl, hx, w2, w3, kr, kn, tr, tn, callV_pu, h25, c1, c2, c3]
  by_cases e : (v : Int) < ins
  · by_cases c4 : a.lat < imax 1 x.bu
    · have hr := hr e
      obtain ⟨hrl, hr⟩ := List.getElem?_eq_some_iff.mp hr
      obtain rfl := hn.tsl hrl
      unfold Nd.vs at hr
      simp [T26b, bxF, c51_b0, c51_r0, c51_a0, hv, hvl, hx, w2, w3, kr, tr, callV_pu, h25, c1, c2, c3, c4, e, hrl, hr]
    · exact absurd ⟨c1, c2, c3, fun _ => c4⟩ hbad
  · exact absurd ⟨c1, c2, c3, fun h => absurd h e⟩ hbad
end
end
end Go.AM.Ytdgineiemjplhaa
