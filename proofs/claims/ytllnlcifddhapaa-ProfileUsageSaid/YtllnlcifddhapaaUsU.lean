/- jacquardref28.Clashes: what it returns. -/
import Derived.Test.YtllnlcifddhapaaUsT
import Derived.Test.YtllnlcifddhapaaUsV
set_option linter.unusedVariables false
set_option linter.unusedSimpArgs false
namespace Go.AM.Ytllnlcifddhapaa
open Go Go.AM
set_option maxRecDepth 100000
set_option maxHeartbeats 0
/-- what has been found so far -/
def InvI (T : V → Heap → Bool → St) (b : Nat) (P : Prop) (t : St) : Prop := (∃ d, t = T .nils [] d ∧ P) ∨ ∃ z es d, es.length = z + 1 ∧ z + 1 ≤ b ∧ t = T (.sl 2 2 (z + 1) 0 (z + 1)) [⟨2, es, 0, false, true⟩] d
def InvO (out : V) (Hx : Heap) (b : Nat) (P : Prop) : Prop := (out = .nils ∧ Hx = [] ∧ P) ∨ ∃ z es, es.length = z + 1 ∧ z + 1 ≤ b ∧ out = (.sl 2 2 (z + 1) 0 (z + 1)) ∧ Hx = [⟨2, es, 0, false, true⟩]
section
variable (K : Nat) (ins par : Int) (loop : Bool) (va vr vn : V) (ii dep : Int) (vs vp vu : V) (ta : va.tree = true) (tr : vr.tree = true) (tn : vn.tree = true) (ts : vs.tree = true) (tp : vp.tree = true) (tu : vu.tree = true) (n : Nat) (hn : (n : Int) = ins) (hnb : n ≤ 5000) (NC : Nat → Nat → Prop) (h22 : ∀ i q : Nat, i < n → q < n → RF (NC i q) (callF tbl pu K 22 [.agg [.int .i64 ins, .int .i64 par, .bool loop, va, vr, vn], .agg [.int .i64 ii, .int .i64 dep, vs, vp, vu], .int .i64 i, .int .i64 q] []))
include ta tr tn ts tp tu hn hnb h22
theorem inner15 (i : Nat) (hi : i < n) (B : Nat) (hB : B ≤ 900000000) (P : Prop) (t0 : St) (h0 : InvI (fun out Hx d => I15 ins par loop va vr vn ii dep vs vp vu out Hx i i d) B P t0) :
    ∃ r, (∃ out Hx d fr, r = (.exit 2, ⟨fr, [bxF ins par loop va vr vn, bxS ii dep vs vp vu] ++ Hx, d⟩) ∧ fr = ((I15 ins par loop va vr vn ii dep vs vp vu out Hx i n d).fr.set 14 (.int .i64 n) |>.set 15 (.ptr 0 1 0 0) |>.set 16 (.int .i64 ins) |>.set 17 (.bool false)) ∧ InvO out Hx (B + n) (P ∧ ∀ q, i ≤ q → q < n → NC i q)) ∧
      ∀ s M, n < M → tidy [2, 3, 5, 6, 7, 9, 10] 0 s = some t0 → iter (tidy [2, 3, 5, 6, 7, 9, 10] 0) (execC (callF tbl pu K) pu 0 K c15_b0) M s = some r := by
  have L := iter_inv (pre := tidy [2, 3, 5, 6, 7, 9, 10] 0) (f := execC (callF tbl pu K) pu 0 K c15_b0)
    (fun j t => InvI (fun out Hx d => I15 ins par loop va vr vn ii dep vs vp vu out Hx i (i + j) d) (B + j) (P ∧ ∀ q, i ≤ q → q < i + j → NC i q) t)
    (fun r => ∃ out Hx d fr, r = (.exit 2, ⟨fr, [bxF ins par loop va vr vn, bxS ii dep vs vp vu] ++ Hx, d⟩) ∧ fr = ((I15 ins par loop va vr vn ii dep vs vp vu out Hx i n d).fr.set 14 (.int .i64 n) |>.set 15 (.ptr 0 1 0 0) |>.set 16 (.int .i64 ins) |>.set 17 (.bool false)) ∧ InvO out Hx (B + n) (P ∧ ∀ q, i ≤ q → q < n → NC i q))
    (n - i)
    (by
      intro j t hj hI
      left
      obtain ⟨b, d', e, hb⟩ := h22 i (i + j) hi (by omega)
      have hql : ((i + j : Nat) : Int) < ins := by omega
      have ext : b = false → (P ∧ ∀ q, i ≤ q → q < i + j → NC i q) → P ∧ ∀ q, i ≤ q → q < i + (j + 1) → NC i q := by
        intro hf h
        refine ⟨h.1, fun q h1 h2 => ?_⟩
        by_cases hlt : q < i + j
        · exact h.2 q h1 hlt
        · have : q = i + j := by omega
          rw [this]; exact hb hf
      rcases hI with ⟨d, rfl, hP⟩ | ⟨z, es, d, hz, hzb, rfl⟩
      · cases hbb : b with
        | false => exact ⟨_, i15a K ins par loop va vr vn ii dep vs vp vu ta tr tn ts tp tu i (i + j) d hql (by omega) b d' e hbb, .inl ⟨d, rfl, ext hbb hP⟩⟩
        | true =>
          obtain ⟨r, hr⟩ := i15c K ins par loop va vr vn ii dep vs vp vu ta tr tn ts tp tu i (i + j) d hql (by omega) b d' e hbb
          exact ⟨_, hr, .inr ⟨0, [r], d, rfl, by omega, rfl⟩⟩
      · cases hbb : b with
        | false => exact ⟨_, i15b K ins par loop va vr vn ii dep vs vp vu ta tr tn ts tp tu i (i + j) d hql (by omega) b d' e hbb es (z + 1), .inr ⟨z, es, d, hz, by omega, rfl⟩⟩
        | true =>
          obtain ⟨es', h1, hr⟩ := i15d K ins par loop va vr vn ii dep vs vp vu ta tr tn ts tp tu i (i + j) d hql (by omega) b d' e hbb es (z + 1) hz (by omega)
          exact ⟨_, hr, .inr ⟨z + 1, es', true, h1, by omega, rfl⟩⟩)
    (by
      intro t hI
      have e0 : i + (n - i) = n := by omega
      rw [e0] at hI
      have fix : InvI (fun out Hx d => I15 ins par loop va vr vn ii dep vs vp vu out Hx i n d) (B + n) (P ∧ ∀ q, i ≤ q → q < n → NC i q) t := by
        rcases hI with h | ⟨z, es, d, hz, hzb, h⟩
        · exact .inl h
        · exact .inr ⟨z, es, d, hz, by omega, h⟩
      have hnl : ¬ (n : Int) < ins := by omega
      rcases fix with ⟨d, rfl, hP⟩ | ⟨z, es, d, hz, hzb, rfl⟩
      · obtain ⟨fr, h1, h2⟩ := i15e K ins par loop va vr vn ii dep vs vp vu ta tr tn ts tp tu (callF tbl pu K) .nils [] i n d hnl
        exact ⟨_, h1, by simp, .nils, [], d, fr, rfl, h2, .inl ⟨rfl, rfl, hP⟩⟩
      · obtain ⟨fr, h1, h2⟩ := i15e K ins par loop va vr vn ii dep vs vp vu ta tr tn ts tp tu (callF tbl pu K) (.sl 2 2 (z + 1) 0 (z + 1)) [⟨2, es, 0, false, true⟩] i n d hnl
        exact ⟨_, h1, by simp, _, _, d, fr, rfl, h2, .inr ⟨z, es, hz, hzb, rfl, rfl⟩⟩)
    (n - i) 0 t0 (by omega) (by
      rcases h0 with ⟨d, h, hP⟩ | ⟨z, es, d, hz, hzb, h⟩
      · exact .inl ⟨d, h, hP, fun q h1 h2 => by omega⟩
      · exact .inr ⟨z, es, d, hz, by omega, h⟩)
  obtain ⟨r, h1, h2⟩ := L
  exact ⟨r, h1, fun s M hM hs => h2 s M (by omega) hs⟩
theorem outer15 (hK : 5010 ≤ K) (i : Nat) (hi : i < n) (B : Nat) (hB : B ≤ 900000000) (P : Prop) (t : St) (h0 : InvI (fun out Hx d => O15 ins par loop va vr vn ii dep vs vp vu out Hx i d) B P t) :
    ∃ t', kNext (tidy [2, 3, 5, 9, 10] 0) (execC (callF tbl pu K) pu 0 K c15_b1 t) = some t' ∧ InvI (fun out Hx d => O15 ins par loop va vr vn ii dep vs vp vu out Hx (i + 1) d) (B + n) (P ∧ ∀ q, i ≤ q → q < n → NC i q) t' := by
  have wi : IntKind.i64.wrap ((i : Int) + 1) = (i : Int) + 1 := wrap64 (by omega) (by omega)
  have hil : (i : Int) < ins := by omega
  have ka := V.cell_of_tree ta
  have kr := V.cell_of_tree tr
  have kn := V.cell_of_tree tn
  have ks := V.cell_of_tree ts
  have kp := V.cell_of_tree tp
  have ku := V.cell_of_tree tu
  rcases h0 with ⟨d, rfl, hP⟩ | ⟨z, es, d, hz, hzb, rfl⟩
  · simp only
    obtain ⟨r, ⟨out, Hx, d2, fr, rfl, rfl, hI⟩, hit⟩ := inner15 K ins par loop va vr vn ii dep vs vp vu ta tr tn ts tp tu n hn hnb NC h22 i hi B hB P (I15 ins par loop va vr vn ii dep vs vp vu .nils [] i i d) (.inl ⟨d, rfl, hP⟩)
    have e : execC (callF tbl pu K) pu 0 K c15_b1 (O15 ins par loop va vr vn ii dep vs vp vu .nils [] i d) = some (.normal, ⟨(I15 ins par loop va vr vn ii dep vs vp vu out Hx i n d2).fr.set 14 (.int .i64 n) |>.set 15 (.ptr 0 1 0 0) |>.set 16 (.int .i64 ins) |>.set 17 (.bool false) |>.set 31 (.int .i64 ((i : Int) + 1)) |>.set 10 (.int .i64 ((i : Int) + 1)), [bxF ins par loop va vr vn, bxS ii dep vs vp vu] ++ Hx, d2⟩) := by
      unfold O15
      simp [c15_b1, execC_loop, -kIter_succ, -tidy, hil]
      rw [hit _ _ (by omega) (by simp [I15, bxF, bxS, ka, kr, kn, ks, kp, ku, ta, tr, tn, ts, tp, tu])]
      simp [I15, wi]
    rw [e, kNext_normal]
    rcases hI with ⟨rfl, rfl, hP'⟩ | ⟨z', es', hz', hzb', rfl, rfl⟩
    · exact ⟨O15 ins par loop va vr vn ii dep vs vp vu .nils [] (i + 1) d2, by simp [I15, O15, bxF, bxS, ka, kr, kn, ks, kp, ku, ta, tr, tn, ts, tp, tu], .inl ⟨d2, rfl, hP'⟩⟩
    · exact ⟨O15 ins par loop va vr vn ii dep vs vp vu (.sl 2 2 (z' + 1) 0 (z' + 1)) [⟨2, es', 0, false, true⟩] (i + 1) d2, by simp [I15, O15, bxF, bxS, ka, kr, kn, ks, kp, ku, ta, tr, tn, ts, tp, tu], .inr ⟨z', es', d2, hz', hzb', rfl⟩⟩
  · simp only
    obtain ⟨r, ⟨out, Hx, d2, fr, rfl, rfl, hI⟩, hit⟩ := inner15 K ins par loop va vr vn ii dep vs vp vu ta tr tn ts tp tu n hn hnb NC h22 i hi B hB P (I15 ins par loop va vr vn ii dep vs vp vu (.sl 2 2 (z + 1) 0 (z + 1)) [⟨2, es, 0, false, true⟩] i i d) (.inr ⟨z, es, d, hz, hzb, rfl⟩)
    have e : execC (callF tbl pu K) pu 0 K c15_b1 (O15 ins par loop va vr vn ii dep vs vp vu (.sl 2 2 (z + 1) 0 (z + 1)) [⟨2, es, 0, false, true⟩] i d) = some (.normal, ⟨(I15 ins par loop va vr vn ii dep vs vp vu out Hx i n d2).fr.set 14 (.int .i64 n) |>.set 15 (.ptr 0 1 0 0) |>.set 16 (.int .i64 ins) |>.set 17 (.bool false) |>.set 31 (.int .i64 ((i : Int) + 1)) |>.set 10 (.int .i64 ((i : Int) + 1)), [bxF ins par loop va vr vn, bxS ii dep vs vp vu] ++ Hx, d2⟩) := by
      unfold O15
      simp [c15_b1, execC_loop, -kIter_succ, -tidy, hil]
      rw [hit _ _ (by omega) (by simp [I15, bxF, bxS, ka, kr, kn, ks, kp, ku, ta, tr, tn, ts, tp, tu])]
      simp [I15, wi]
    rw [e, kNext_normal]
    rcases hI with ⟨rfl, rfl, hP'⟩ | ⟨z', es', hz', hzb', rfl, rfl⟩
    · exact ⟨O15 ins par loop va vr vn ii dep vs vp vu .nils [] (i + 1) d2, by simp [I15, O15, bxF, bxS, ka, kr, kn, ks, kp, ku, ta, tr, tn, ts, tp, tu], .inl ⟨d2, rfl, hP'⟩⟩
    · exact ⟨O15 ins par loop va vr vn ii dep vs vp vu (.sl 2 2 (z' + 1) 0 (z' + 1)) [⟨2, es', 0, false, true⟩] (i + 1) d2, by simp [I15, O15, bxF, bxS, ka, kr, kn, ks, kp, ku, ta, tr, tn, ts, tp, tu], .inr ⟨z', es', d2, hz', hzb', rfl⟩⟩
theorem loop15 (hK : 5010 ≤ K) : ∃ r, (∃ out Hx d, r = (.exit 0, ⟨(O15 ins par loop va vr vn ii dep vs vp vu out Hx n d).fr.set 11 (.bool false), [bxF ins par loop va vr vn, bxS ii dep vs vp vu] ++ Hx, d⟩) ∧ InvO out Hx 900000000 (∀ i q, i ≤ q → q < n → NC i q)) ∧
    ∀ s M, n < M → tidy [2, 3, 5, 9, 10] 0 s = some (O15 ins par loop va vr vn ii dep vs vp vu .nils [] 0 false) → iter (tidy [2, 3, 5, 9, 10] 0) (execC (callF tbl pu K) pu 0 K c15_b1) M s = some r := by
  have ka := V.cell_of_tree ta
  have kr := V.cell_of_tree tr
  have kn := V.cell_of_tree tn
  have ks := V.cell_of_tree ts
  have kp := V.cell_of_tree tp
  have ku := V.cell_of_tree tu
  refine iter_inv (fun j t => InvI (fun out Hx d => O15 ins par loop va vr vn ii dep vs vp vu out Hx j d) (j * n) (∀ i q, i < j → i ≤ q → q < n → NC i q) t) _ n ?_ ?_ n 0 _ (by omega) (.inl ⟨false, rfl, fun i q h => by omega⟩)
  · intro j t hj hI
    left
    have hjn : j * n ≤ 5000 * 5000 := Nat.mul_le_mul (by omega) hnb
    obtain ⟨t', h1, h2⟩ := outer15 K ins par loop va vr vn ii dep vs vp vu ta tr tn ts tp tu n hn hnb NC h22 hK j hj (j * n) (by omega) _ t hI
    refine ⟨t', h1, ?_⟩
    have e : (j + 1) * n = j * n + n := Nat.succ_mul j n
    rw [e]
    rcases h2 with ⟨d, h, hP⟩ | h
    · refine .inl ⟨d, h, fun i q h1 h2 h3 => ?_⟩
      by_cases hlt : i < j
      · exact hP.1 i q hlt h2 h3
      · obtain rfl : i = j := by omega
        exact hP.2 q h2 h3
    · exact .inr h
  · intro t hI
    have hnn : n * n ≤ 5000 * 5000 := Nat.mul_le_mul hnb hnb
    have hnl : ¬ (n : Int) < ins := by omega
    rcases hI with ⟨d, rfl, hP⟩ | ⟨z, es, d, hz, hzb, rfl⟩
    · exact ⟨(.exit 0, ⟨(O15 ins par loop va vr vn ii dep vs vp vu .nils [] n d).fr.set 11 (.bool false), [bxF ins par loop va vr vn, bxS ii dep vs vp vu] ++ [], d⟩), by simp [O15, c15_b1, hnl], by simp, .nils, [], d, rfl, .inl ⟨rfl, rfl, fun i q h1 h2 => hP i q (by omega) h1 h2⟩⟩
    · exact ⟨(.exit 0, ⟨(O15 ins par loop va vr vn ii dep vs vp vu (.sl 2 2 (z + 1) 0 (z + 1)) [⟨2, es, 0, false, true⟩] n d).fr.set 11 (.bool false), [bxF ins par loop va vr vn, bxS ii dep vs vp vu] ++ [⟨2, es, 0, false, true⟩], d⟩), by simp [O15, c15_b1, hnl], by simp, _, _, d, rfl, .inr ⟨z, es, hz, by omega, rfl, rfl⟩⟩
end
end Go.AM.Ytllnlcifddhapaa
