/- schedcheck.Fits and jacquardref28.Fits: the rounds of their loops. -/
import Derived.Test.YtllnlcifddhapaaUsE
set_option linter.unusedVariables false
set_option linter.unusedSimpArgs false
namespace Go.AM.Ytllnlcifddhapaa
open Go Go.AM
set_option maxRecDepth 100000
set_option maxHeartbeats 0
def bxS (ii dep : Int) (vs vp vu : V) : Blk := ⟨5, [[.int .i64 ii, .int .i64 dep, vs, vp, vu]], 0, true, [V.int .i64 ii, .int .i64 dep, vs, vp, vu].all V.flat⟩
def T10b (ins par : Int) (loop : Bool) (va vr vn : V) (ii dep : Int) (vs vp vu : V) (o : Int) (v : V) (m j : Nat) (d : Bool) : St := ⟨[.undef, .undef, .ptr 0 1 0 0, .ptr 1 1 0 0, .undef, .undef, .undef, .undef, .undef, .undef, .undef, .undef, .undef, .undef, .undef, .undef, .undef, .undef, .undef, .undef, .undef, .undef, .undef, .undef, .undef, .undef, .undef, .undef, .undef, .undef, .undef, .undef, .undef, .undef, .undef, .undef, .undef, .undef, .undef, .undef, .undef, .undef, .undef, .undef, .undef, .undef, .undef, .undef, .undef, .undef, .undef, .undef, .undef, .undef, .undef, .undef, .undef, .undef, .undef, .undef, .undef, .sl 1 2 2 0 2, .int .i64 2, .int .i64 o, .undef, .undef, .undef, v, .int .i64 m, .int .i64 j, .undef, .undef, .undef, .undef, .undef, .undef, .undef, .undef, .undef, .undef, .undef, .undef, .undef, .undef, .undef, .undef, .undef, .undef, .undef, .undef, .undef, .undef, .undef, .undef, .undef, .undef, .undef, .undef, .undef, .undef, .undef, .undef, .undef, .undef, .undef, .undef, .undef, .undef, .undef, .undef, .undef, .undef, .undef, .undef, .undef], [bxF ins par loop va vr vn, bxS ii dep vs vp vu, ⟨1, [[vs], [vp]], 0, false, [[vs], [vp]].all (fun x => x.all V.flat)⟩], d⟩
def T10a (ins par : Int) (loop : Bool) (va vr vn : V) (ii dep : Int) (vs vp vu : V) (m j : Nat) (d : Bool) : St := ⟨[.undef, .undef, .ptr 0 1 0 0, .undef, .undef, .undef, .undef, .undef, .undef, .undef, .undef, .undef, .undef, .undef, .undef, .undef, .undef, .undef, .undef, .undef, .undef, .undef, .undef, .undef, .undef, .undef, .undef, .undef, .undef, .undef, .undef, .undef, .undef, .undef, .undef, .undef, .undef, .undef, .undef, .undef, .undef, .undef, .undef, .undef, .undef, .undef, .undef, .undef, .undef, .undef, .undef, .undef, .undef, .undef, .undef, .undef, .undef, .undef, .undef, .undef, .undef, .undef, .undef, .undef, .undef, .undef, .undef, .undef, .undef, .undef, .undef, .undef, .undef, .undef, .undef, .undef, .undef, .undef, .undef, vu, .int .i64 m, .int .i64 j, .undef, .undef, .undef, .undef, .undef, .undef, .undef, .undef, .undef, .undef, .undef, .undef, .undef, .undef, .undef, .undef, .undef, .undef, .undef, .undef, .undef, .undef, .undef, .undef, .undef, .undef, .undef, .undef, .undef, .undef, .undef, .undef, .undef], [bxF ins par loop va vr vn], d⟩
def T12b (ins par : Int) (loop : Bool) (va vr vn : V) (ii dep : Int) (vs vp vu : V) (m j : Nat) (d : Bool) : St := ⟨[.undef, .undef, .ptr 0 1 0 0, .ptr 1 1 0 0, .undef, .undef, .undef, .undef, .undef, .undef, .undef, .undef, .undef, .undef, .undef, .undef, .undef, .undef, .undef, .undef, .undef, .undef, .undef, .undef, .undef, .undef, .undef, .undef, .undef, .undef, .undef, .undef, .undef, .undef, .undef, .undef, .undef, .undef, .undef, .undef, .undef, .undef, .undef, .undef, .undef, .undef, .undef, .undef, .undef, .undef, .undef, .undef, .undef, .undef, .undef, .undef, .undef, .undef, .undef, .undef, .int .i64 m, .int .i64 j, .undef, .undef, .undef, .undef, .undef, .undef, .undef, .undef, .undef, .undef, .undef, .undef, .undef, .undef, .undef, .undef, .undef, .undef, .undef, .undef, .undef, .undef, .undef, .undef, .undef, .undef, .undef, .undef, .undef, .undef, .undef, .undef, .undef, .undef, .undef, .undef, .undef, .undef, .undef, .undef, .undef, .undef, .undef, .undef, .undef, .undef, .undef, .undef, .undef, .undef, .undef, .undef, .undef, .undef, .undef, .undef, .undef, .undef, .undef, .undef, .undef, .undef, .undef, .undef, .undef, .undef, .undef, .undef, .undef, .undef, .undef, .undef, .undef, .undef, .undef, .undef, .undef, .undef, .undef, .undef, .undef, .undef, .undef, .undef], [bxF ins par loop va vr vn, bxS ii dep vs vp vu], d⟩
def T12a (ins par : Int) (loop : Bool) (va vr vn : V) (ii dep : Int) (vs vp vu : V) (m j : Nat) (d : Bool) : St := ⟨[.undef, .undef, .undef, .ptr 0 1 0 0, .undef, .undef, .undef, .undef, .undef, .undef, .undef, .undef, .undef, .undef, .undef, .undef, .undef, .undef, .undef, .undef, .undef, .undef, .undef, .undef, .undef, .undef, .undef, .undef, .undef, .undef, .undef, .undef, .undef, .undef, .undef, .undef, .undef, .undef, .undef, .undef, .undef, .undef, .undef, .undef, .undef, .undef, .undef, .undef, .undef, .undef, .undef, .undef, .undef, .undef, .undef, .undef, .undef, .undef, .undef, .undef, .undef, .undef, .undef, .undef, .undef, .undef, .undef, .undef, .undef, .undef, .undef, .undef, .undef, .undef, .undef, .undef, .undef, .undef, .undef, .undef, .undef, .undef, .undef, .undef, .undef, .undef, .undef, .undef, .undef, .undef, .undef, .undef, .undef, .undef, .undef, .undef, .undef, .undef, .undef, .undef, .undef, .undef, .undef, .undef, .undef, .undef, .undef, .undef, .undef, .undef, .undef, .undef, .undef, .undef, .undef, .undef, .undef, .undef, .undef, .undef, .undef, .undef, .undef, .undef, .undef, .undef, .undef, .int .i64 m, .int .i64 j, .undef, .undef, .undef, .undef, .undef, .undef, .undef, .undef, .undef, .undef, .undef, .undef, .undef, .undef, .undef, .undef, .undef], [bxS ii dep vs vp vu], d⟩
/-- a unit that suits -/
def unB (R : List Rs) (x : Nd) (u : Int) : Prop := (x.rs < 0 → u = -1) ∧ (0 ≤ x.rs → btw 0 u ((R.getD x.rs.toNat ⟨0, 0, 0, 0⟩).ct - 1) = true)
section
variable (k : Nat) (ins par : Int) (loop : Bool) (va vr vn : V) (ii dep : Int) (vs vp vu : V)
section
variable (o : Int) (es : List (List V)) (m j : Nat) (x : Int) (d : Bool) (hm : es.length = m) (hx : es[j]? = some (ivs x)) (hj : j < m) (hb : m ≤ 1000000000) (ta : va.tree = true) (tr : vr.tree = true) (tn : vn.tree = true) (ts : vs.tree = true) (tp : vp.tree = true) (tu : vu.tree = true)
include hm hx hj hb ta tr tn ts tp tu
theorem s10b (h : btw 0 x 4096 = true) :
    kNext (tidy [2, 3, 61, 62, 63, 67, 68, 69] 0) (execC (callF tbl pu (k + 1)) pu 0 (k + 1) c10_b1 (T10b ins par loop va vr vn ii dep vs vp vu o (.tsl 1 es) m j d)) = some (T10b ins par loop va vr vn ii dep vs vp vu o (.tsl 1 es) m (j + 1) d) := by
  have wj : IntKind.i64.wrap ((j : Int) + 1) = (j : Int) + 1 := wrap64 (by omega) (by omega)
  have h17 := fun n lo hi => d17 k n lo hi
  have ka := V.cell_of_tree ta
  have kr := V.cell_of_tree tr
  have kn := V.cell_of_tree tn
  have ks := V.cell_of_tree ts
  have kp := V.cell_of_tree tp
  have ku := V.cell_of_tree tu
  subst hm
  rw [List.getElem?_eq_getElem hj, Option.some_inj] at hx
  unfold ivs at hx
  simp [T10b, bxF, bxS, c10_b1, hj, hx, wj, ka, kr, kn, ks, kp, ku, ta, tr, tn, ts, tp, tu, callV_pu, h17, h]
theorem r10b (hbad : ¬ btw 0 x 4096 = true) :
    retF 4 (execC (callF tbl pu (k + 1)) pu 0 (k + 1) c10_b1 (T10b ins par loop va vr vn ii dep vs vp vu o (.tsl 1 es) m j d)) := by
  have h17 := fun n lo hi => d17 k n lo hi
  have ka := V.cell_of_tree ta
  have kr := V.cell_of_tree tr
  have kn := V.cell_of_tree tn
  have ks := V.cell_of_tree ts
  have kp := V.cell_of_tree tp
  have ku := V.cell_of_tree tu
  have h : btw 0 x 4096 = false := by simpa using hbad
  subst hm
  rw [List.getElem?_eq_getElem hj, Option.some_inj] at hx
  unfold ivs at hx
  simp [T10b, bxF, bxS, c10_b1, hj, hx, ka, kr, kn, ks, kp, ku, ta, tr, tn, ts, tp, tu, callV_pu, h17, h]
end
section
variable (es ns : List (List V)) (R : List Rs) (m j : Nat) (x : Nd) (u : Int) (d : Bool) (hm : es.length = m) (hx : es[j]? = some (ivs u)) (hj : j < m) (hb : m ≤ 1000000000) (ta : va.tree = true) (hr : Sl 4 (R.map Rs.vs) vr) (hn : ns[j]? = some x.vs) (hrs : x.rs < R.length) (hct : ∀ r ∈ R, 1 ≤ r.ct ∧ r.ct ≤ 1024)
include hm hx hj hb ta hr hn hrs hct
theorem s10a (h : unB R x u) :
    kNext (tidy [2, 79, 80, 81] 0) (execC (callF tbl pu (k + 1)) pu 0 (k + 1) c10_b0 (T10a ins par loop va vr (.tsl 2 ns) ii dep vs vp (.tsl 1 es) m j d)) = some (T10a ins par loop va vr (.tsl 2 ns) ii dep vs vp (.tsl 1 es) m (j + 1) d) := by
  have wj : IntKind.i64.wrap ((j : Int) + 1) = (j : Int) + 1 := wrap64 (by omega) (by omega)
  have h17 := fun n lo hi => d17 k n lo hi
  have ka := V.cell_of_tree ta
  have tr := hr.tree
  have kr := hr.cell
  subst hm
  obtain ⟨hnl, hn⟩ := List.getElem?_eq_some_iff.mp hn
  rw [List.getElem?_eq_getElem hj, Option.some_inj] at hx
  unfold ivs at hx
  unfold Nd.vs at hn
  by_cases e : x.rs < 0
  · have hu := h.1 e
    have e' : ¬ 0 ≤ x.rs := by omega
    simp [T10a, bxF, c10_b0, hj, hx, hnl, hn, wj, ka, kr, ta, tr, callV_pu, h17, e, e', hu]
  · have e' : 0 ≤ x.rs := by omega
    have h2 := h.2 e'
    have hq : x.rs.toNat < R.length := by omega
    have hrl : x.rs.toNat < (R.map Rs.vs).length := by simpa using hq
    obtain rfl := hr.tsl hrl
    have hg : R.getD x.rs.toNat ⟨0, 0, 0, 0⟩ = R[x.rs.toNat] := by simp [List.getD, hq]
    rw [hg] at h2
    have hb2 := hct _ (List.getElem_mem hq)
    have wc : IntKind.i64.wrap (R[x.rs.toNat].ct - 1) = R[x.rs.toNat].ct - 1 := wrap64 (by omega) (by omega)
    have hes : (R.map Rs.vs)[x.rs.toNat] = Rs.vs R[x.rs.toNat] := by simp
    have hll : (R.map Rs.vs).length = R.length := by simp
    generalize R.map Rs.vs = rs at *
    generalize R[x.rs.toNat] = r at *
    unfold Rs.vs at hes
    simp [T10a, bxF, c10_b0, hj, hx, hnl, hn, wj, ka, ta, callV_pu, h17, e, e', hrl, hes, wc, h2]
theorem r10a (hbad : ¬ unB R x u) :
    retF 4 (execC (callF tbl pu (k + 1)) pu 0 (k + 1) c10_b0 (T10a ins par loop va vr (.tsl 2 ns) ii dep vs vp (.tsl 1 es) m j d)) := by
  have h17 := fun n lo hi => d17 k n lo hi
  have ka := V.cell_of_tree ta
  have tr := hr.tree
  have kr := hr.cell
  subst hm
  obtain ⟨hnl, hn⟩ := List.getElem?_eq_some_iff.mp hn
  rw [List.getElem?_eq_getElem hj, Option.some_inj] at hx
  unfold ivs at hx
  unfold Nd.vs at hn
  by_cases e : x.rs < 0
  · have e' : ¬ 0 ≤ x.rs := by omega
    have hu : ¬ u = -1 := fun h => hbad ⟨fun _ => h, fun h => absurd h e'⟩
    simp [T10a, bxF, c10_b0, hj, hx, hnl, hn, ka, kr, ta, tr, callV_pu, h17, e, e', hu]
  · have e' : 0 ≤ x.rs := by omega
    have hq : x.rs.toNat < R.length := by omega
    have hrl : x.rs.toNat < (R.map Rs.vs).length := by simpa using hq
    obtain rfl := hr.tsl hrl
    have hg : R.getD x.rs.toNat ⟨0, 0, 0, 0⟩ = R[x.rs.toNat] := by simp [List.getD, hq]
    have h2 : btw 0 u (R[x.rs.toNat].ct - 1) = false := by
      rw [Bool.eq_false_iff]
      intro h
      exact hbad ⟨fun h => absurd h e, fun _ => by rw [hg]; exact h⟩
    have hb2 := hct _ (List.getElem_mem hq)
    have wc : IntKind.i64.wrap (R[x.rs.toNat].ct - 1) = R[x.rs.toNat].ct - 1 := wrap64 (by omega) (by omega)
    have hes : (R.map Rs.vs)[x.rs.toNat] = Rs.vs R[x.rs.toNat] := by simp
    have hll : (R.map Rs.vs).length = R.length := by simp
    generalize R.map Rs.vs = rs at *
    generalize R[x.rs.toNat] = r at *
    unfold Rs.vs at hes
    simp [T10a, bxF, c10_b0, hj, hx, hnl, hn, ka, ta, callV_pu, h17, e, e', hrl, hes, wc, h2]
end
end
end Go.AM.Ytllnlcifddhapaa
