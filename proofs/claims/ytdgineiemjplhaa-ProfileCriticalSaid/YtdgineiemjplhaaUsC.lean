/- dataflow.Valid: the rounds of its loops. -/
import Derived.Test.YtdgineiemjplhaaUsB
set_option linter.unusedVariables false
set_option linter.unusedSimpArgs false
namespace Go.AM.Ytdgineiemjplhaa
open Go Go.AM
set_option maxRecDepth 100000
set_option maxHeartbeats 0
def T16a (ins par : Int) (loop : Bool) (va vr vn : V) (far : Int) (n j : Nat) (d : Bool) : St := ⟨[.undef, .ptr 0 1 0 0, .undef, .int .i64 far, .undef, .undef, .undef, .undef, .undef, .undef, .undef, .undef, .undef, .undef, .undef, .undef, .undef, .undef, .undef, .undef, .undef, .undef, .undef, .undef, .undef, .undef, .undef, .undef, .undef, .undef, .undef, va, .int .i64 n, .int .i64 j, .undef, .undef, .undef, .undef, .undef, .undef, .undef, .undef, .undef, .undef, .undef, .undef, .undef, .undef, .undef, .undef, .undef, .undef, .undef, .undef, .undef, .undef, .undef, .undef, .undef, .undef, .undef, .undef, .undef, .undef, .undef, .undef, .undef, .undef, .undef, .undef, .undef, .undef, .undef, .undef, .undef, .undef, .undef, .undef, .undef, .undef, .undef, .undef, .undef, .undef, .undef, .undef, .undef, .undef, .undef, .undef, .undef, .undef, .undef, .undef, .undef, .undef, .undef, .undef, .undef, .undef, .undef, .undef, .undef, .undef, .undef, .undef, .undef, .undef, .undef, .undef, .undef, .undef, .undef, .undef, .undef], [bxF ins par loop va vr vn], d⟩
def T16b (ins par : Int) (loop : Bool) (va vr vn : V) (n j : Nat) (d : Bool) : St := ⟨[.undef, .ptr 0 1 0 0, .undef, .undef, .undef, .undef, .undef, .undef, .undef, .undef, .undef, .undef, .undef, .undef, .undef, .undef, .undef, .undef, .undef, .undef, .undef, .undef, .undef, .undef, .undef, .undef, .undef, .undef, .undef, .undef, .undef, .undef, .undef, .undef, .undef, .undef, .undef, .undef, .undef, .undef, .undef, .undef, .undef, .undef, .undef, .undef, .undef, .undef, .undef, .undef, .undef, .undef, .undef, .undef, .undef, .undef, .undef, .undef, .undef, .undef, .undef, .undef, .undef, .undef, .undef, .undef, vr, .int .i64 n, .int .i64 j, .undef, .undef, .undef, .undef, .undef, .undef, .undef, .undef, .undef, .undef, .undef, .undef, .undef, .undef, .undef, .undef, .undef, .undef, .undef, .undef, .undef, .undef, .undef, .undef, .undef, .undef, .undef, .undef, .undef, .undef, .undef, .undef, .undef, .undef, .undef, .undef, .undef, .undef, .undef, .undef, .undef, .undef, .undef, .undef, .undef, .undef], [bxF ins par loop va vr vn], d⟩
def T16c (ins par : Int) (loop : Bool) (va vr vn : V) (n j : Nat) (d : Bool) : St := ⟨[.undef, .ptr 0 1 0 0, .undef, .undef, .undef, .undef, .undef, .undef, .undef, .undef, .undef, .undef, .undef, .undef, .undef, .undef, .undef, .undef, .undef, .undef, .undef, .undef, .undef, .undef, .undef, .undef, .undef, .undef, .undef, .undef, .undef, .undef, .undef, .undef, .undef, .undef, .undef, .undef, .undef, .undef, .undef, .undef, .undef, .undef, .undef, .undef, .undef, .undef, .undef, .undef, .undef, .undef, .undef, .undef, .undef, .undef, .undef, .undef, .undef, .undef, .undef, .undef, .undef, .undef, .undef, .undef, .undef, .undef, .undef, .undef, .undef, .undef, .undef, .undef, .undef, .undef, .undef, .undef, .undef, .undef, .undef, .undef, .undef, .undef, vn, .int .i64 n, .int .i64 j, .undef, .undef, .undef, .undef, .undef, .undef, .undef, .undef, .undef, .undef, .undef, .undef, .undef, .undef, .undef, .undef, .undef, .undef, .undef, .undef, .undef, .undef, .undef, .undef, .undef, .undef, .undef, .undef], [bxF ins par loop va vr vn], d⟩
def arcB (n far : Int) (a : Arc) : Prop := btw 0 a.fr n = true ∧ btw 0 a.to (n + 1) = true ∧ btw 0 a.lat 4096 = true ∧ btw 0 a.di far = true
def resB (a : Rs) : Prop := btw 1 a.kd 4 = true ∧ btw 1 a.ct 1024 = true
def ndB (m : Int) (a : Nd) : Prop := (a.rs = -1 ∧ a.bu = 0) ∨ (btw 0 a.rs (m - 1) = true ∧ btw 1 a.bu 256 = true)
section
variable (k : Nat) (ins par : Int) (loop : Bool)
section
variable (es : List (List V)) (vr vn : V) (far : Int) (n j : Nat) (a : Arc) (d : Bool) (hn : es.length = n) (hx : es[j]? = some a.vs) (hj : j < n) (hb : n ≤ 1000000000) (tr : vr.tree = true) (tn : vn.tree = true) (w1 : IntKind.i64.wrap (ins + par) = ins + par) (w2 : IntKind.i64.wrap (ins + par + 1) = ins + par + 1)
include hn hx hj hb tr tn w1 w2
theorem s16a (h : arcB (ins + par) far a) :
    kNext (tidy [1, 3, 31, 32, 33] 0) (execC (callF tbl pu (k + 1)) pu 0 (k + 1) c30_b2 (T16a ins par loop (.tsl 4 es) vr vn far n j d)) = some (T16a ins par loop (.tsl 4 es) vr vn far n (j + 1) true) := by
  obtain ⟨b1, b2, b3, b4⟩ := h
  have wj : IntKind.i64.wrap ((j : Int) + 1) = (j : Int) + 1 := wrap64 (by omega) (by omega)
  have kr := V.cell_of_tree tr
  have kn := V.cell_of_tree tn
  have h23 := fun n lo hi => d48 k n lo hi
  have h24 := d49 k ins par loop (.tsl 4 es) vr vn rfl tr tn
  have h25 := d50 k ins par loop (.tsl 4 es) vr vn rfl tr tn
  rw [w1] at h24 h25
  rw [w2] at h25
  subst hn
  rw [List.getElem?_eq_getElem hj, Option.some_inj] at hx
  unfold Arc.vs at hx
  simp [T16a, bxF, c30_b2, c30_r0, c30_a0, hj, hx, wj, kr, kn, tr, tn, callV_pu, h23, h24, h25, b1, b2, b3, b4]
theorem r16a (hbad : ¬ arcB (ins + par) far a) :
    retF 2 (execC (callF tbl pu (k + 1)) pu 0 (k + 1) c30_b2 (T16a ins par loop (.tsl 4 es) vr vn far n j d)) := by
  have kr := V.cell_of_tree tr
  have kn := V.cell_of_tree tn
  have h23 := fun n lo hi => d48 k n lo hi
  have h24 := d49 k ins par loop (.tsl 4 es) vr vn rfl tr tn
  have h25 := d50 k ins par loop (.tsl 4 es) vr vn rfl tr tn
  rw [w1] at h24 h25
  rw [w2] at h25
  subst hn
  rw [List.getElem?_eq_getElem hj, Option.some_inj] at hx
  unfold Arc.vs at hx
  cases b1 : btw 0 a.fr (ins + par)
  · simp [T16a, bxF, c30_b2, c30_r0, c30_a0, hj, hx, kr, kn, tr, tn, callV_pu, h23, h24, h25, b1]
  cases b2 : btw 0 a.to (ins + par + 1)
  · simp [T16a, bxF, c30_b2, c30_r0, c30_a0, hj, hx, kr, kn, tr, tn, callV_pu, h23, h24, h25, b1, b2]
  cases b3 : btw 0 a.lat 4096
  · simp [T16a, bxF, c30_b2, c30_r0, c30_a0, hj, hx, kr, kn, tr, tn, callV_pu, h23, h24, h25, b1, b2, b3]
  cases b4 : btw 0 a.di far
  · simp [T16a, bxF, c30_b2, c30_r0, c30_a0, hj, hx, kr, kn, tr, tn, callV_pu, h23, h24, h25, b1, b2, b3, b4]
  exact absurd ⟨b1, b2, b3, b4⟩ hbad
end
section
variable (es : List (List V)) (va vn : V) (n j : Nat) (a : Rs) (d : Bool) (hn : es.length = n) (hx : es[j]? = some a.vs) (hj : j < n) (hb : n ≤ 1000000000) (ta : va.tree = true) (tn : vn.tree = true)
include hn hx hj hb ta tn
theorem s16b (h : resB a) :
    kNext (tidy [1, 66, 67, 68] 0) (execC (callF tbl pu (k + 1)) pu 0 (k + 1) c30_b1 (T16b ins par loop va (.tsl 4 es) vn n j d)) = some (T16b ins par loop va (.tsl 4 es) vn n (j + 1) true) := by
  obtain ⟨b1, b2⟩ := h
  have wj : IntKind.i64.wrap ((j : Int) + 1) = (j : Int) + 1 := wrap64 (by omega) (by omega)
  have ka := V.cell_of_tree ta
  have kn := V.cell_of_tree tn
  have h23 := fun n lo hi => d48 k n lo hi
  subst hn
  rw [List.getElem?_eq_getElem hj, Option.some_inj] at hx
  unfold Rs.vs at hx
  simp [T16b, bxF, c30_b1, hj, hx, wj, ka, kn, ta, tn, callV_pu, h23, b1, b2]
theorem r16b (hbad : ¬ resB a) :
    retF 2 (execC (callF tbl pu (k + 1)) pu 0 (k + 1) c30_b1 (T16b ins par loop va (.tsl 4 es) vn n j d)) := by
  have ka := V.cell_of_tree ta
  have kn := V.cell_of_tree tn
  have h23 := fun n lo hi => d48 k n lo hi
  subst hn
  rw [List.getElem?_eq_getElem hj, Option.some_inj] at hx
  unfold Rs.vs at hx
  cases b1 : btw 1 a.kd 4
  · simp [T16b, bxF, c30_b1, hj, hx, ka, kn, ta, tn, callV_pu, h23, b1]
  cases b2 : btw 1 a.ct 1024
  · simp [T16b, bxF, c30_b1, hj, hx, ka, kn, ta, tn, callV_pu, h23, b1, b2]
  exact absurd ⟨b1, b2⟩ hbad
end
section
variable (es rs : List (List V)) (va vr : V) (n j : Nat) (a : Nd) (d : Bool) (hn : es.length = n) (hx : es[j]? = some a.vs) (hj : j < n) (hb : n ≤ 1000000000) (ta : va.tree = true) (hr : Sl 4 rs vr) (hrb : rs.length ≤ 1000000000)
include hn hx hj hb ta hr hrb
theorem s16c (h : ndB rs.length a) :
    kNext (tidy [1, 84, 85, 86] 0) (execC (callF tbl pu (k + 1)) pu 0 (k + 1) c30_b0 (T16c ins par loop va vr (.tsl 2 es) n j d)) = some (T16c ins par loop va vr (.tsl 2 es) n (j + 1) true) := by
  have wj : IntKind.i64.wrap ((j : Int) + 1) = (j : Int) + 1 := wrap64 (by omega) (by omega)
  have wl : IntKind.i64.wrap ((rs.length : Int) - 1) = (rs.length : Int) - 1 := wrap64 (by omega) (by omega)
  have ka := V.cell_of_tree ta
  have tr := hr.tree
  have kr := hr.cell
  have sr := hr.lst
  have lr := hr.len
  have h23 := fun n lo hi => d48 k n lo hi
  subst hn
  rw [List.getElem?_eq_getElem hj, Option.some_inj] at hx
  unfold Nd.vs at hx
  by_cases c1 : a.rs = -1
  · by_cases c2 : a.bu = 0
    · simp [T16c, bxF, c30_b0, hj, hx, wj, ka, kr, ta, tr, callV_pu, h23, c1, c2]
    · rcases h with h | ⟨b1, b2⟩
      · exact absurd h.2 c2
      · rw [btw_iff] at b1; omega
  · rcases h with h | ⟨b1, b2⟩
    · exact absurd h.1 c1
    · simp [T16c, bxF, c30_b0, hj, hx, wj, wl, ka, kr, ta, tr, callV_pu, h23, kLen_lst, sr, lr, c1, b1, b2]
theorem r16c (hbad : ¬ ndB rs.length a) :
    retF 2 (execC (callF tbl pu (k + 1)) pu 0 (k + 1) c30_b0 (T16c ins par loop va vr (.tsl 2 es) n j d)) := by
  have wl : IntKind.i64.wrap ((rs.length : Int) - 1) = (rs.length : Int) - 1 := wrap64 (by omega) (by omega)
  have ka := V.cell_of_tree ta
  have tr := hr.tree
  have kr := hr.cell
  have sr := hr.lst
  have lr := hr.len
  have h23 := fun n lo hi => d48 k n lo hi
  subst hn
  rw [List.getElem?_eq_getElem hj, Option.some_inj] at hx
  unfold Nd.vs at hx
  by_cases c1 : a.rs = -1
  · by_cases c2 : a.bu = 0
    · exact absurd (.inl ⟨c1, c2⟩) hbad
    · have b1 : btw 0 (-1) ((rs.length : Int) - 1) = false := by rw [Bool.eq_false_iff]; intro h; rw [btw_iff] at h; omega
      simp [T16c, bxF, c30_b0, hj, hx, wl, ka, kr, ta, tr, callV_pu, h23, kLen_lst, sr, lr, c1, c2, b1]
  · cases b1 : btw 0 a.rs ((rs.length : Int) - 1)
    · simp [T16c, bxF, c30_b0, hj, hx, wl, ka, kr, ta, tr, callV_pu, h23, kLen_lst, sr, lr, c1, b1]
    · cases b2 : btw 1 a.bu 256
      · simp [T16c, bxF, c30_b0, hj, hx, wl, ka, kr, ta, tr, callV_pu, h23, kLen_lst, sr, lr, c1, b1, b2]
      · exact absurd (.inr ⟨b1, b2⟩) hbad
end
end
end Go.AM.Ytdgineiemjplhaa
