/- jacquardref28.Clash: what it returns. -/
import Derived.Test.YtllnlcifddhapaaUsR
set_option linter.unusedVariables false
set_option linter.unusedSimpArgs false
namespace Go.AM.Ytllnlcifddhapaa
open Go Go.AM
set_option maxRecDepth 100000
set_option maxHeartbeats 0
def T22 (ins par : Int) (loop : Bool) (va vr vn : V) (ii dep : Int) (vs vp vu : V) (i q : Nat) (la c : Int) (d : Bool) : St := ⟨[.undef, .undef, .int .i64 i, .int .i64 q, .ptr 0 1 0 0, .ptr 1 1 0 0, .undef, .undef, .undef, .undef, .int .i64 la, .int .i64 c, .undef, .undef, .undef, .undef, .undef, .undef, .undef, .undef, .undef, .undef, .undef, .undef, .undef, .undef, .undef, .undef, .undef, .undef, .undef, .undef, .undef, .undef, .undef, .undef, .undef, .undef, .undef, .undef, .undef, .undef, .undef, .undef, .undef, .undef, .undef, .undef, .undef, .undef, .undef, .undef, .undef, .undef, .undef, .undef, .undef, .undef, .undef, .undef, .undef, .undef, .undef, .undef, .undef, .undef, .undef, .undef, .undef, .undef, .undef, .undef, .undef, .undef, .undef, .undef, .undef, .undef, .undef, .undef, .undef, .undef, .undef, .undef, .undef, .undef, .undef, .undef, .undef, .undef, .undef, .undef, .undef, .undef, .undef, .undef, .undef, .undef, .undef, .undef, .undef, .undef, .undef, .undef, .undef, .undef, .undef, .undef, .undef, .undef, .undef], [bxF ins par loop va vr vn, bxS ii dep vs vp vu], d⟩
def retT (slot : Nat) : Option (Ex × St) → Prop
  | some (.ret, s) => s.fr.getD slot .undef = .bool true
  | _ => False
theorem retT_ret {slot : Nat} {s : St} : retT slot (some (.ret, s)) = (s.fr.getD slot .undef = .bool true) := rfl
theorem retT_some {slot : Nat} {x : Option (Ex × St)} (h : retT slot x) : ∃ s, x = some (.ret, s) ∧ s.fr.getD slot .undef = .bool true := by
  cases x with
  | none => cases h
  | some r =>
    obtain ⟨e, s⟩ := r
    cases e with
    | ret => exact ⟨s, rfl, h⟩
    | normal => cases h
    | exit id => cases h
section
variable (k : Nat) (ins par : Int) (loop : Bool) (va vr : V) (ii dep : Int) (vp : V) (ss us ns : List (List V)) (ta : va.tree = true) (tr : vr.tree = true) (tp : vp.tree = true)
include ta tr tp
theorem s22 (i q : Nat) (la c : Int) (d oi oq : Bool) (hc : c ≤ la) (hb : -100000 ≤ c ∧ c ≤ 100000) (hi : callF tbl pu k 27 ([.agg [.int .i64 ins, .int .i64 par, .bool loop, va, vr, .tsl 2 ns], .agg [.int .i64 ii, .int .i64 dep, .tsl 1 ss, vp, .tsl 1 us], .int .i64 i, .int .i64 c]) [] = some (.bool oi, [], false)) (hq : callF tbl pu k 27 ([.agg [.int .i64 ins, .int .i64 par, .bool loop, va, vr, .tsl 2 ns], .agg [.int .i64 ii, .int .i64 dep, .tsl 1 ss, vp, .tsl 1 us], .int .i64 q, .int .i64 c]) [] = some (.bool oq, [], false)) (hn : ¬ (oi = true ∧ oq = true)) :
    kNext (tidy [2, 3, 4, 5, 10, 11] 0) (execC (callF tbl pu k) pu 0 k c22_b0 (T22 ins par loop va vr (.tsl 2 ns) ii dep (.tsl 1 ss) vp (.tsl 1 us) i q la c d)) = some (T22 ins par loop va vr (.tsl 2 ns) ii dep (.tsl 1 ss) vp (.tsl 1 us) i q la (c + 1) d) := by
  have wc : IntKind.i64.wrap (c + 1) = c + 1 := wrap64 (by omega) (by omega)
  have ka := V.cell_of_tree ta
  have kr := V.cell_of_tree tr
  have kp := V.cell_of_tree tp
  cases oi with
  | false => simp [T22, bxF, bxS, c22_b0, hc, wc, ka, kr, kp, ta, tr, tp, callV_pu, hi]
  | true =>
    have e : oq = false := by cases oq with | false => rfl | true => exact absurd ⟨rfl, rfl⟩ hn
    subst e
    simp [T22, bxF, bxS, c22_b0, hc, wc, ka, kr, kp, ta, tr, tp, callV_pu, hi, hq]
theorem r22 (i q : Nat) (la c : Int) (d : Bool) (hc : c ≤ la) (hi : callF tbl pu k 27 ([.agg [.int .i64 ins, .int .i64 par, .bool loop, va, vr, .tsl 2 ns], .agg [.int .i64 ii, .int .i64 dep, .tsl 1 ss, vp, .tsl 1 us], .int .i64 i, .int .i64 c]) [] = some (.bool true, [], false)) (hq : callF tbl pu k 27 ([.agg [.int .i64 ins, .int .i64 par, .bool loop, va, vr, .tsl 2 ns], .agg [.int .i64 ii, .int .i64 dep, .tsl 1 ss, vp, .tsl 1 us], .int .i64 q, .int .i64 c]) [] = some (.bool true, [], false)) :
    retT 8 (execC (callF tbl pu k) pu 0 k c22_b0 (T22 ins par loop va vr (.tsl 2 ns) ii dep (.tsl 1 ss) vp (.tsl 1 us) i q la c d)) := by
  have ka := V.cell_of_tree ta
  have kr := V.cell_of_tree tr
  have kp := V.cell_of_tree tp
  simp [T22, bxF, bxS, c22_b0, hc, ka, kr, kp, ta, tr, tp, callV_pu, hi, hq, retT_ret]
end
def firstI (ii a b : Int) : Int := if 0 < ii then 0 else imin a b
def lastI (ii a b : Int) : Int := if 0 < ii then ii - 1 else imax a b + 256
/-- two instructions do not clash -/
def NoCl (ii : Int) (x y : Nd) (sx sy ux uy : Int) (same : Prop) : Prop := x.rs < 0 ∨ x.rs ≠ y.rs ∨ ux ≠ uy ∨ (same ∧ ¬ (0 < ii ∧ ii < x.bu)) ∨ (¬ same ∧ ∀ c, firstI ii sx sy ≤ c → c ≤ lastI ii sx sy → ¬ (occB ii sx x.bu c = true ∧ occB ii sy y.bu c = true))
/-- a bool, and what false says -/
def RF (P : Prop) (x : Option (V × Heap × Bool)) : Prop := ∃ b d, x = some (.bool b, [], d) ∧ (b = false → P)
theorem RF_mk {P : Prop} {b d : Bool} (h : b = false → P) : RF P (some (.bool b, [], d)) := ⟨b, d, rfl, h⟩
section
variable (K : Nat) (ins par : Int) (loop : Bool) (va vr : V) (ii dep : Int) (vp : V) (ss us ns : List (List V)) (i q : Nat) (x y : Nd) (sx sy ux uy : Int) (ta : va.tree = true) (tr : vr.tree = true) (tp : vp.tree = true)
  (h1 : ss[i]? = some (ivs sx)) (h2 : ss[q]? = some (ivs sy)) (h3 : us[i]? = some (ivs ux)) (h4 : us[q]? = some (ivs uy)) (h5 : ns[i]? = some x.vs) (h6 : ns[q]? = some y.vs) (hii : 0 ≤ ii ∧ ii ≤ 256) (hsx : 0 ≤ sx ∧ sx ≤ 4096) (hsy : 0 ≤ sy ∧ sy ≤ 4096) (hK : 5000 ≤ K)
include ta tr tp h1 h2 h3 h4 h5 h6 hii hsx hsy hK
theorem d22 : RF (NoCl ii x y sx sy ux uy (i = q)) (callF tbl pu (K + 2) 22 ([.agg [.int .i64 ins, .int .i64 par, .bool loop, va, vr, .tsl 2 ns], .agg [.int .i64 ii, .int .i64 dep, .tsl 1 ss, vp, .tsl 1 us], .int .i64 i, .int .i64 q]) []) := by
  have o1 := fun c hc => d27 K ins par loop va vr ii dep vp (.tsl 1 us) ss ns i c sx x ta tr tp rfl h1 h5 hii hsx hc
  have o2 := fun c hc => d27 K ins par loop va vr ii dep vp (.tsl 1 us) ss ns q c sy y ta tr tp rfl h2 h6 hii hsy hc
  have hfl : 0 ≤ firstI ii sx sy ∧ firstI ii sx sy ≤ lastI ii sx sy + 1 ∧ lastI ii sx sy ≤ 4400 := by
    unfold firstI lastI imin imax
    split <;> (repeat split) <;> omega
  have L := iter_inv (pre := tidy [2, 3, 4, 5, 10, 11] 0) (f := execC (callF tbl pu (K + 1)) pu 0 (K + 1) c22_b0)
    (fun j t => t = T22 ins par loop va vr (.tsl 2 ns) ii dep (.tsl 1 ss) vp (.tsl 1 us) i q (lastI ii sx sy) (firstI ii sx sy + j) false ∧ ∀ c, firstI ii sx sy ≤ c → c < firstI ii sx sy + j → ¬ (occB ii sx x.bu c = true ∧ occB ii sy y.bu c = true))
    (fun r => (∃ s, r = (.ret, s) ∧ s.fr.getD 8 .undef = .bool true) ∨ (r = (.exit 0, ⟨(T22 ins par loop va vr (.tsl 2 ns) ii dep (.tsl 1 ss) vp (.tsl 1 us) i q (lastI ii sx sy) (lastI ii sx sy + 1) false).fr.set 94 (.int .i64 (lastI ii sx sy + 1)) |>.set 95 (.int .i64 (lastI ii sx sy)) |>.set 96 (.bool false), [bxF ins par loop va vr (.tsl 2 ns), bxS ii dep (.tsl 1 ss) vp (.tsl 1 us)], false⟩) ∧ ∀ c, firstI ii sx sy ≤ c → c ≤ lastI ii sx sy → ¬ (occB ii sx x.bu c = true ∧ occB ii sy y.bu c = true)))
    (lastI ii sx sy + 1 - firstI ii sx sy).toNat
    (by
      rintro j t hj ⟨rfl, hno⟩
      by_cases hc : occB ii sx x.bu (firstI ii sx sy + j) = true ∧ occB ii sy y.bu (firstI ii sx sy + j) = true
      · right
        have e1 := o1 (firstI ii sx sy + j) (by omega)
        have e2 := o2 (firstI ii sx sy + j) (by omega)
        rw [hc.1] at e1
        rw [hc.2] at e2
        obtain ⟨s, g1, g2⟩ := retT_some (r22 (K + 1) ins par loop va vr ii dep vp ss us ns ta tr tp i q (lastI ii sx sy) (firstI ii sx sy + j) false (by omega) e1 e2)
        exact ⟨_, g1, by simp, .inl ⟨s, rfl, g2⟩⟩
      · left
        have hjl : firstI ii sx sy + (j : Int) ≤ lastI ii sx sy := by omega
        refine ⟨T22 ins par loop va vr (.tsl 2 ns) ii dep (.tsl 1 ss) vp (.tsl 1 us) i q (lastI ii sx sy) (firstI ii sx sy + (j : Int) + 1) false, s22 (K + 1) ins par loop va vr ii dep vp ss us ns ta tr tp i q (lastI ii sx sy) (firstI ii sx sy + j) false _ _ hjl (by omega) (o1 _ (by omega)) (o2 _ (by omega)) hc, ?_, fun c hc1 hc2 => ?_⟩
        · rw [show firstI ii sx sy + (j : Int) + 1 = firstI ii sx sy + ((j + 1 : Nat) : Int) by omega]
        · by_cases h : c < firstI ii sx sy + j
          · exact hno c hc1 h
          · have : c = firstI ii sx sy + j := by omega
            rw [this]; exact hc)
    (by
      rintro t ⟨rfl, hno⟩
      have hN : (((lastI ii sx sy + 1 - firstI ii sx sy).toNat : Nat) : Int) = lastI ii sx sy + 1 - firstI ii sx sy := Int.toNat_of_nonneg (by omega)
      rw [hN, show firstI ii sx sy + (lastI ii sx sy + 1 - firstI ii sx sy) = lastI ii sx sy + 1 by omega] at *
      refine ⟨_, ?_, ?_, .inr ⟨rfl, fun c h1 h2 => hno c h1 (by omega)⟩⟩
      · have : ¬ lastI ii sx sy + 1 ≤ lastI ii sx sy := by omega
        simp [T22, c22_b0, this]
      · simp)
    (lastI ii sx sy + 1 - firstI ii sx sy).toNat 0 (T22 ins par loop va vr (.tsl 2 ns) ii dep (.tsl 1 ss) vp (.tsl 1 us) i q (lastI ii sx sy) (firstI ii sx sy + ((0 : Nat) : Int)) false) (by omega) ⟨rfl, fun c h1 h2 => by omega⟩
  obtain ⟨r, hr, hit⟩ := L
  have ka := V.cell_of_tree ta
  have kr := V.cell_of_tree tr
  have kp := V.cell_of_tree tp
  clear o1 o2
  obtain ⟨l1, h1⟩ := List.getElem?_eq_some_iff.mp h1
  obtain ⟨l2, h2⟩ := List.getElem?_eq_some_iff.mp h2
  obtain ⟨l3, h3⟩ := List.getElem?_eq_some_iff.mp h3
  obtain ⟨l4, h4⟩ := List.getElem?_eq_some_iff.mp h4
  obtain ⟨l5, h5⟩ := List.getElem?_eq_some_iff.mp h5
  obtain ⟨l6, h6⟩ := List.getElem?_eq_some_iff.mp h6
  unfold ivs at h1 h2 h3 h4
  unfold Nd.vs at h5 h6
  generalize hNC : NoCl ii x y sx sy ux uy (i = q) = PP
  rw [callF_eq tbl22, Ytllnlcifddhapaa.c22]
  by_cases c1 : x.rs < 0
  · simp [ka, kr, kp, c22_r0, c22_a0, l5, h5, c1]
    exact RF_mk fun _ => by rw [← hNC]; exact .inl c1
  by_cases c2 : x.rs = y.rs
  rotate_left
  · simp [ka, kr, kp, c22_r0, c22_a0, l5, h5, l6, h6, c1, c2]
    exact RF_mk fun _ => by rw [← hNC]; exact .inr (.inl c2)
  by_cases c3 : ux = uy
  rotate_left
  · have c1' : ¬ y.rs < 0 := by omega
    simp [ka, kr, kp, c22_r0, c22_a0, l5, h5, l6, h6, l3, h3, l4, h4, c1, c1', c2, c3]
    exact RF_mk fun _ => by rw [← hNC]; exact .inr (.inr (.inl c3))
  have c1' : ¬ y.rs < 0 := by omega
  by_cases c4 : i = q
  · subst c4
    by_cases c5 : 0 < ii
    · by_cases c6 : ii < x.bu
      · simp [ka, kr, kp, c22_r0, c22_a0, c22_r1, c22_a1, l5, h5, l6, h6, l3, h3, l4, h4, c1, c1', c2, c3, c5, c6]
        exact RF_mk fun h => by cases h
      · simp [ka, kr, kp, c22_r0, c22_a0, c22_r1, c22_a1, l5, h5, l6, h6, l3, h3, l4, h4, c1, c1', c2, c3, c5, c6]
        exact RF_mk fun _ => by rw [← hNC]; exact .inr (.inr (.inr (.inl ⟨rfl, fun h => c6 h.2⟩)))
    · simp [ka, kr, kp, c22_r0, c22_a0, c22_r1, c22_a1, l5, h5, l6, h6, l3, h3, l4, h4, c1, c1', c2, c3, c5]
      exact RF_mk fun _ => by rw [← hNC]; exact .inr (.inr (.inr (.inl ⟨rfl, fun h => c5 h.1⟩)))
  have c4' : ¬ (i : Int) = q := by omega
  have w1 : IntKind.i64.wrap (imax sx sy + 256) = imax sx sy + 256 := by
    unfold imax; split <;> exact wrap64 (by omega) (by omega)
  have w2 : IntKind.i64.wrap (ii - 1) = ii - 1 := wrap64 (by omega) (by omega)
  have fin : ∀ fr0 : List V, RF PP (kFin 0 [.t 8] (kSeq (callF tbl pu (K + 1)) pu 0 (K + 1) (.seq (.reg [⟨(some 8), none, (.mv (.c (.bool false)))⟩]) .ret) (kBlk 0 (some r)))) := by
    intro _
    rcases hr with ⟨s, rfl, hs⟩ | ⟨rfl, hno⟩
    · simp only [kBlk_ret, kSeq_ret]
      rw [fin_ret rfl hs]
      exact RF_mk fun h => by cases h
    · simp [T22]
      exact RF_mk fun _ => by rw [← hNC]; exact .inr (.inr (.inr (.inr ⟨c4, hno⟩)))
  by_cases c5 : 0 < ii
  · have e1 : firstI ii sx sy = 0 := if_pos c5
    have e2 : lastI ii sx sy = ii - 1 := if_pos c5
    simp [execC_loop, -kIter_succ, -tidy, ka, kr, kp, c22_r0, c22_a0, c22_r2, c22_a2, l1, h1, l2, h2, l5, h5, l6, h6, l3, h3, l4, h4, c1, c1', c2, c3, c4, c4', c5, w1, w2]
    rw [hit _ _ (by omega) (by simp [T22, bxF, bxS, ka, kr, kp, ta, tr, tp, e1, e2])]
    exact fin []
  · have e1 : firstI ii sx sy = imin sx sy := if_neg c5
    have e2 : lastI ii sx sy = imax sx sy + 256 := if_neg c5
    simp [execC_loop, -kIter_succ, -tidy, ka, kr, kp, c22_r0, c22_a0, c22_r2, c22_a2, l1, h1, l2, h2, l5, h5, l6, h6, l3, h3, l4, h4, c1, c1', c2, c3, c4, c4', c5, w1, w2]
    rw [hit _ _ (by omega) (by simp [T22, bxF, bxS, ka, kr, kp, ta, tr, tp, e1, e2])]
    exact fin []
end
end Go.AM.Ytllnlcifddhapaa
