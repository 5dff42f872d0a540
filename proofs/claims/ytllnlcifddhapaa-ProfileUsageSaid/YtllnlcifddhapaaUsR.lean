/- jacquardref28.Occupies, Clash: what they return. -/
import Derived.Test.YtllnlcifddhapaaUsQ
set_option linter.unusedVariables false
set_option linter.unusedSimpArgs false
namespace Go.AM.Ytllnlcifddhapaa
open Go Go.AM
set_option maxRecDepth 100000
set_option maxHeartbeats 0
def occE (ii d : Int) : Int := if 0 < ii then (if d.tmod ii < 0 then d.tmod ii + ii else d.tmod ii) else d
def occB (ii st bu c : Int) : Bool := decide (0 ≤ occE ii (c - st)) && decide (occE ii (c - st) < bu)
section
variable (k : Nat) (ins par : Int) (loop : Bool) (va vr : V) (ii dep : Int) (vp vu : V) (ss ns : List (List V)) (i : Nat) (c st : Int) (x : Nd) (ta : va.tree = true) (tr : vr.tree = true) (tp : vp.tree = true) (tu : vu.tree = true) (hs : ss[i]? = some (ivs st)) (hn : ns[i]? = some x.vs)
  (hii : 0 ≤ ii ∧ ii ≤ 256) (hst : 0 ≤ st ∧ st ≤ 4096) (hc : -100000 ≤ c ∧ c ≤ 100000)
include ta tr tp tu hs hn hii hst hc
theorem d27 : callF tbl pu (k + 1) 27 [.agg [.int .i64 ins, .int .i64 par, .bool loop, va, vr, .tsl 2 ns], .agg [.int .i64 ii, .int .i64 dep, .tsl 1 ss, vp, vu], .int .i64 i, .int .i64 c] [] = some (.bool (occB ii st x.bu c), [], false) := by
  have ka := V.cell_of_tree ta
  have kr := V.cell_of_tree tr
  have kp := V.cell_of_tree tp
  have ku := V.cell_of_tree tu
  obtain ⟨hsl, hs⟩ := List.getElem?_eq_some_iff.mp hs
  obtain ⟨hnl, hn⟩ := List.getElem?_eq_some_iff.mp hn
  unfold ivs at hs
  unfold Nd.vs at hn
  have w1 : IntKind.i64.wrap (c - st) = c - st := wrap64 (by omega) (by omega)
  rw [callF_eq tbl27, Ytllnlcifddhapaa.c27]
  unfold occB occE
  generalize hE : c - st = e at *
  by_cases h0 : 0 < ii
  · have z0 : ¬ ii = 0 := by omega
    have b1 := Int.tmod_lt_of_pos e h0
    have b2 := Int.lt_tmod_of_pos e h0
    simp only [h0, if_true]
    generalize hR : e.tmod ii = r at *
    by_cases h1 : r < 0
    · have w2 : IntKind.i64.wrap (r + ii) = r + ii := wrap64 (by omega) (by omega)
      have h2 : 0 ≤ r + ii := by omega
      by_cases h3 : r + ii < x.bu
      · simp [ka, kr, kp, ku, hsl, hs, hnl, hn, hE, hR, w1, h0, z0, h1, w2, h2, h3]
      · simp [ka, kr, kp, ku, hsl, hs, hnl, hn, hE, hR, w1, h0, z0, h1, w2, h2, h3]
    · have h2 : 0 ≤ r := by omega
      by_cases h3 : r < x.bu
      · simp [ka, kr, kp, ku, hsl, hs, hnl, hn, hE, hR, w1, h0, z0, h1, h2, h3]
      · simp [ka, kr, kp, ku, hsl, hs, hnl, hn, hE, hR, w1, h0, z0, h1, h2, h3]
  · simp only [h0, if_false]
    by_cases h2 : 0 ≤ e
    · by_cases h3 : e < x.bu
      · simp [ka, kr, kp, ku, hsl, hs, hnl, hn, hE, w1, h0, h2, h3]
      · simp [ka, kr, kp, ku, hsl, hs, hnl, hn, hE, w1, h0, h2, h3]
    · simp [ka, kr, kp, ku, hsl, hs, hnl, hn, hE, w1, h0, h2]
end
end Go.AM.Ytllnlcifddhapaa
