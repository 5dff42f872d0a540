/- jacquardref31.Sum: what an instruction list needs of a resource. -/
import Derived.Test.YtdgineiemjplhaaUsB
set_option linter.unusedVariables false
set_option linter.unusedSimpArgs false
namespace Go.AM.Ytdgineiemjplhaa
open Go Go.AM
set_option maxRecDepth 100000
set_option maxHeartbeats 0
/-- the sum over the first ones -/
def sumN (l : List Nd) (r : Int) : Nat → Int
  | 0 => 0
  | j + 1 => sumN l r j + (match l[j]? with | some x => if x.rs = r then x.bu else 0 | none => 0)
def lonN (l : List Nd) (r : Int) : Nat → Int
  | 0 => 0
  | j + 1 => match l[j]? with | some x => if x.rs = r then imax (lonN l r j) x.bu else lonN l r j | none => lonN l r j
theorem sumN_bound (l : List Nd) (r : Int) (h : ∀ x ∈ l, 0 ≤ x.bu ∧ x.bu ≤ 256) : ∀ j, 0 ≤ sumN l r j ∧ sumN l r j ≤ 256 * j
  | 0 => by simp [sumN]
  | j + 1 => by
    have ih := sumN_bound l r h j
    simp only [sumN]
    cases hx : l[j]? with
    | none => simp only; omega
    | some x =>
      have := h x (List.mem_iff_getElem?.mpr ⟨j, hx⟩)
      simp only
      split <;> omega
def T13 (ins par : Int) (loop : Bool) (va vr vn : V) (r su lo : Int) (m j : Nat) : St := ⟨[.undef, .int .i64 r, .ptr 0 1 0 0, .undef, .undef, .undef, .int .i64 su, .int .i64 lo, .undef, .undef, .undef, .int .i64 m, .int .i64 j, .undef, .undef, .undef, .undef, .undef, .undef, .undef, .undef, .undef, .undef, .undef, .undef, .undef, .undef, .undef, .undef, .undef, .undef, .undef, .undef, .undef, .undef, .undef, .undef, .undef, .undef, .undef, .undef, .undef], [bxF ins par loop va vr vn], false⟩
theorem s13 (call : CallT) (k : Nat) (ins par : Int) (loop : Bool) (va vr : V) (es : List (List V)) (r su lo : Int) (m j : Nat) (x : Nd) (hm : es.length = m) (hx : es[j]? = some x.vs) (hj : j < m) (hb : m ≤ 1000000000) (ta : va.tree = true) (tr : vr.tree = true) (hw : IntKind.i64.wrap (su + x.bu) = su + x.bu) :
    kNext (tidy [1, 2, 6, 7, 11, 12] 0) (execC call pu 0 k c18_b0 (T13 ins par loop va vr (.tsl 2 es) r su lo m j)) =
      some (if x.rs = r then T13 ins par loop va vr (.tsl 2 es) r (su + x.bu) (imax lo x.bu) m (j + 1) else T13 ins par loop va vr (.tsl 2 es) r su lo m (j + 1)) := by
  have wj : IntKind.i64.wrap ((j : Int) + 1) = (j : Int) + 1 := wrap64 (by omega) (by omega)
  have ka := V.cell_of_tree ta
  have kr := V.cell_of_tree tr
  subst hm
  rw [List.getElem?_eq_getElem hj, Option.some_inj] at hx
  unfold Nd.vs at hx
  by_cases e : x.rs = r
  · rw [if_pos e]
    simp [T13, bxF, c18_b0, hj, hx, wj, hw, ka, kr, ta, tr, e]
  · rw [if_neg e]
    simp [T13, bxF, c18_b0, hj, hx, wj, ka, kr, ta, tr, e]
theorem d18 (K : Nat) (f : Fl) (hf : f.Ok) (r : Int) (hN : f.N.length ≤ 10000) (hb : ∀ x ∈ f.N, 0 ≤ x.bu ∧ x.bu ≤ 256) (hK : 10001 ≤ K) :
    callF tbl pu (K + 1) 18 [f.v, .int .i64 r] [] = some (.tup [.int .i64 (sumN f.N r f.N.length), .int .i64 (lonN f.N r f.N.length)], [], false) := by
  obtain ⟨ins, par, loop, va, vr, vn, A, R, N⟩ := f
  obtain ⟨oa, or, on⟩ := hf
  simp only at oa or on hN hb
  have ta := oa.tree
  have tr := or.tree
  have tn := on.tree
  have ka := oa.cell
  have kr := or.cell
  have kn := on.cell
  have ln := on.len
  have sn := on.lst
  rw [List.length_map] at ln
  rw [callF_eq tbl18, Ytdgineiemjplhaa.c18]
  unfold Fl.v
  simp [execC_loop, -kIter_succ, -tidy, ka, kr, kn, kLen_lst, sn, ln]
  rw [iter_to (fun j => T13 ins par loop va vr vn r (sumN N r j) (lonN N r j) N.length j) N.length
    (r := (.exit 0, ⟨(T13 ins par loop va vr vn r (sumN N r N.length) (lonN N r N.length) N.length N.length).fr.set 13 (.bool false), [bxF ins par loop va vr vn], false⟩)) ?h0 (by omega) ?hs ?he (by simp)]
  case h0 => simp [T13, bxF, sumN, lonN, ka, kr, kn, ta, tr, tn]
  case he => simp [T13, c18_b0]
  case hs =>
    intro j hj
    have hj' : j < (N.map Nd.vs).length := by simpa using hj
    have e := on.tsl hj'
    have b1 := sumN_bound N r hb j
    have b2 := hb _ (List.getElem_mem hj)
    have := s13 (callF tbl pu K) K ins par loop va vr (N.map Nd.vs) r (sumN N r j) (lonN N r j) N.length j N[j] (by simp) (map_get hj') hj (by omega) ta tr (wrap64 (by omega) (by omega))
    rw [← e] at this
    rw [this]
    simp only [sumN, lonN, List.getElem?_eq_getElem hj]
    split <;> simp
  simp [T13]
end Go.AM.Ytdgineiemjplhaa
