/- jacquardref28.Late, Occupies: what they return. -/
import Derived.Test.YtllnlcifddhapaaUsP
set_option linter.unusedVariables false
set_option linter.unusedSimpArgs false
namespace Go.AM.Ytllnlcifddhapaa
open Go Go.AM
set_option maxRecDepth 100000
set_option maxHeartbeats 0
def okA (f : Fl) (s : Sc) (a : Arc) : Prop := ¬ timeI f s a.to - timeI f s a.fr < a.lat - s.ii * a.di
theorem time_bound {f : Fl} {s : Sc} (h : fitsP f s) (v : Int) : 0 ≤ timeI f s v ∧ timeI f s v ≤ 4096 := by
  have hd := btw_iff.mp h.dep
  have hg : ∀ (l : List Int), (∀ x ∈ l, btw 0 x 4096 = true) → ∀ j, 0 ≤ l.getD j 0 ∧ l.getD j 0 ≤ 4096 := by
    intro l hl j
    by_cases hj : j < l.length
    · have : l.getD j 0 = l[j] := by simp [List.getD, hj]
      rw [this]
      exact btw_iff.mp (hl _ (List.getElem_mem hj))
    · have : l.getD j 0 = 0 := by simp [List.getD, List.getElem?_eq_none (Nat.le_of_not_lt hj)]
      omega
  unfold timeI
  split
  · exact hg _ h.S _
  · split
    · exact hg _ h.P _
    · split <;> omega
/-- a list of findings: none, or some -/
def Found (z : Nat) (v : V) (H : Heap) (P : Prop) : Prop := (v = .nils ∧ H = [] ∧ P) ∨ ∃ q es, v = .sl z 0 (q + 1) 0 (q + 1) ∧ es.length = q + 1 ∧ H = [⟨z, es, 0, false, true⟩]
def RL (z : Nat) (P : Prop) (x : Option (V × Heap × Bool)) : Prop := ∃ v H d, x = some (v, H, d) ∧ Found z v H P
theorem d14 (K : Nat) (f : Fl) (hf : f.Ok) (s : Sc) (hs : s.Ok) (hv : validP f) (hfit : fitsP f s) (hA : f.A.length ≤ 10000) (hPb : s.P.length ≤ 100000) (hK : 10010 ≤ K) :
    RL 1 (∀ a ∈ f.A, okA f s a) (callF tbl pu (K + 3) 14 [f.v, s.v] []) := by
  have hii := btw_iff.mp hfit.ii
  have hh1 := btw_iff.mp hv.1.1
  have hh2 := btw_iff.mp hv.1.2.1
  have hw : IntKind.i64.wrap (f.ins + f.par) = f.ins + f.par := wrap64 (by omega) (by omega)
  have h20 := fun v hv0 => d20 K f hf s hs hfit hPb v hv0 hw
  have h21 := fun a h => d21 (K + 1) a s.ii h hii
  have harc : ∀ a ∈ f.A, 0 ≤ a.fr ∧ 0 ≤ a.to ∧ (0 ≤ a.lat ∧ a.lat ≤ 4096 ∧ 0 ≤ a.di ∧ a.di ≤ 256) := by
    intro a ha
    obtain ⟨b1, b2, b3, b4⟩ := hv.2.1 a ha
    rw [btw_iff] at b1 b2 b3 b4
    have : farI f ≤ 256 := by unfold farI; split <;> omega
    omega
  have htb := fun v => time_bound hfit v
  generalize hT : timeI f s = tm at *
  have hokd : ∀ a, okA f s a ↔ ¬ tm a.to - tm a.fr < a.lat - s.ii * a.di := by intro a; unfold okA; rw [hT]
  simp only [hokd]
  clear hT hokd hv hfit
  obtain ⟨ins, par, loop, va, vr, vn, A, R, N⟩ := f
  obtain ⟨ii, dep, vs, vp, vu, S, P, U⟩ := s
  obtain ⟨oa, or, on⟩ := hf
  obtain ⟨os, op, ou⟩ := hs
  simp only at oa or on os op ou
  have ta := oa.tree
  have tr := or.tree
  have tn := on.tree
  have ts := os.tree
  have tp := op.tree
  have tu := ou.tree
  have ka := V.cell_of_tree ta
  have kr := V.cell_of_tree tr
  have kn := V.cell_of_tree tn
  have ks := V.cell_of_tree ts
  have kp := V.cell_of_tree tp
  have ku := V.cell_of_tree tu
  simp only at h20 h21 harc hA hPb hii
  have la := oa.len
  have sa := oa.lst
  rw [List.length_map] at la
  unfold Fl.v Sc.v at *
  simp only at h20
  have wxy : ∀ x y, IntKind.i64.wrap (tm x - tm y) = tm x - tm y := fun x y => wrap64 (by have := htb x; have := htb y; omega) (by have := htb x; have := htb y; omega)
  have L := iter_inv (pre := tidy [2, 3, 5, 10, 11] 0) (f := execC (callF tbl pu (K + 2)) pu 0 (K + 2) c14_b0)
    (fun j t => (∃ d, t = T14 ins par loop va vr vn ii dep vs vp vu .nils [] A.length j d ∧ ∀ i, (h : i < A.length) → i < j → ¬ tm A[i].to - tm A[i].fr < A[i].lat - ii * A[i].di) ∨ (∃ q es d, es.length = q + 1 ∧ q + 1 ≤ j ∧ t = T14 ins par loop va vr vn ii dep vs vp vu (.sl 1 2 (q + 1) 0 (q + 1)) [⟨1, es, 0, false, true⟩] A.length j d))
    (fun r => ∃ out Hx d, r = (.exit 0, ⟨(T14 ins par loop va vr vn ii dep vs vp vu out Hx A.length A.length d).fr.set 12 (.bool false), [bxF ins par loop va vr vn, bxS ii dep vs vp vu] ++ Hx, d⟩) ∧ ((out = .nils ∧ Hx = [] ∧ ∀ a ∈ A, ¬ tm a.to - tm a.fr < a.lat - ii * a.di) ∨ ∃ q es, out = .sl 1 2 (q + 1) 0 (q + 1) ∧ es.length = q + 1 ∧ Hx = [⟨1, es, 0, false, true⟩])) A.length
    (by
      intro j t hj hI
      have hj' : j < (A.map Arc.vs).length := by simpa using hj
      obtain ⟨f1, f2, f3⟩ := harc _ (List.getElem_mem hj)
      have e := oa.tsl hj'
      subst e
      left
      rcases hI with ⟨d, rfl, hok⟩ | ⟨q, es, d, hq, hqj, rfl⟩
      · by_cases hc : tm A[j].to - tm A[j].fr < A[j].lat - ii * A[j].di
        · obtain ⟨r, hr⟩ := s14b (K + 2) ins par loop vr vn ii dep vs vp vu (A.map Arc.vs) A.length j A[j] _ _ _ d (by simp) (map_get hj') hj (by omega) tr tn ts tp tu (h20 _ f2) (h20 _ f1) (h21 _ f3) (wxy _ _) hc
          exact ⟨_, hr, .inr ⟨0, _, _, rfl, by omega, rfl⟩⟩
        · have hr := s14a (K + 2) ins par loop vr vn ii dep vs vp vu (A.map Arc.vs) A.length j A[j] _ _ _ d (by simp) (map_get hj') hj (by omega) tr tn ts tp tu (h20 _ f2) (h20 _ f1) (h21 _ f3) (wxy _ _) hc
          refine ⟨_, hr, .inl ⟨_, rfl, fun i hi hij => ?_⟩⟩
          rcases Nat.lt_or_eq_of_le (Nat.le_of_lt_succ hij) with h | rfl
          · exact hok i hi h
          · exact hc
      · by_cases hc : tm A[j].to - tm A[j].fr < A[j].lat - ii * A[j].di
        · obtain ⟨es', h1, hr⟩ := s14d (K + 2) ins par loop vr vn ii dep vs vp vu (A.map Arc.vs) A.length j A[j] _ _ _ d (by simp) (map_get hj') hj (by omega) tr tn ts tp tu (h20 _ f2) (h20 _ f1) (h21 _ f3) (wxy _ _) es (q + 1) hq (by omega) hc
          exact ⟨_, hr, .inr ⟨q + 1, es', _, h1, by omega, rfl⟩⟩
        · have hr := s14c (K + 2) ins par loop vr vn ii dep vs vp vu (A.map Arc.vs) A.length j A[j] _ _ _ d (by simp) (map_get hj') hj (by omega) tr tn ts tp tu (h20 _ f2) (h20 _ f1) (h21 _ f3) (wxy _ _) es (q + 1) hq (by omega) hc
          exact ⟨_, hr, .inr ⟨q, es, _, hq, by omega, rfl⟩⟩)
    (by
      intro t hI
      rcases hI with ⟨d, rfl, hok⟩ | ⟨q, es, d, hq, hqj, rfl⟩
      · refine ⟨_, by simp only [T14, c14_b0]; simp; rfl, by simp, .nils, [], d, ?_, .inl ⟨rfl, rfl, all_idx.mp fun j h => hok j h h⟩⟩
        simp [T14]
      · refine ⟨_, by simp only [T14, c14_b0]; simp; rfl, by simp, _, _, d, ?_, .inr ⟨q, es, rfl, hq, rfl⟩⟩
        simp [T14])
    A.length 0 (T14 ins par loop va vr vn ii dep vs vp vu .nils [] A.length 0 false) (by omega) (.inl ⟨false, rfl, fun i _ h => absurd h (by omega)⟩)
  obtain ⟨r, ⟨out, Hx, d, rfl, hout⟩, hr⟩ := L
  generalize hPP : (∀ a ∈ A, ¬ tm a.to - tm a.fr < a.lat - ii * a.di) = PP at hout ⊢
  rw [callF_eq tbl14, Ytllnlcifddhapaa.c14]
  simp [execC_loop, -kIter_succ, -tidy, ka, kr, kn, ks, kp, ku, ta, tr, tn, ts, tp, tu, kLen_lst, sa, la]
  rw [hr _ _ (by omega) (by simp [T14, bxF, bxS, ka, kr, kn, ks, kp, ku, ta, tr, tn, ts, tp, tu])]
  rcases hout with ⟨rfl, rfl, h⟩ | ⟨q, es, rfl, hq, rfl⟩
  · simp [T14]
    exact ⟨_, _, _, rfl, .inl ⟨rfl, rfl, h⟩⟩
  · simp [T14, bxF, bxS]
    exact ⟨_, _, _, rfl, .inr ⟨q, es, rfl, hq, rfl⟩⟩
end Go.AM.Ytllnlcifddhapaa
