/- The law ExplorePareto over the executor: no conditions beyond the arguments' types. -/
import Derived.Test.YtcfijihoepkgeaaSayExplorePareto
import Derived.Test.YtcfijihoepkgeaaRpC
set_option linter.unusedVariables false
set_option linter.unusedSimpArgs false
namespace Go.AM.Ytcfijihoepkgeaa
open Go Go.AM
set_option maxRecDepth 100000
set_option maxHeartbeats 0
theorem p13 : pu 13 = true := by decide
theorem p14 : pu 14 = true := by decide
theorem p9 : pu 9 = true := by decide
theorem awakeK (k : Nat) : callF tbl pu (k + 40) 9 [] [] = some (.bool true, [], false) := by kernel_rfl
theorem vsL_of : ∀ {es : List (List V)}, (∀ x ∈ es, S23 x) → ∃ l, es = vsL l
  | [], _ => ⟨[], rfl⟩
  | e :: es, h => by
    obtain ⟨l, rfl⟩ := vsL_of (es := es) fun x hx => h x (by simp [hx])
    obtain ⟨a, b, c, d, rfl, _⟩ := flat23 (h e (by simp))
    exact ⟨⟨a, b, c, d⟩ :: l, rfl⟩
theorem law4b (k : Nat) (l : List Pt) (hl : 60 < l.length) : ∃ d, callF tbl pu (k + 401) 4 [.tsl 4 (vsL l)] [] = some (.bool true, [], d) := by
  have aw := awakeK (k + 360)
  have hl' : (60 : Int) < l.length := by omega
  refine ⟨false, ?_⟩
  rw [callF_eq tbl4, Ytcfijihoepkgeaa.c4]
  simp [callV_pure, p9, aw, vsL_length, hl']
theorem law4n : ∃ d, callF tbl pu 401 4 [.nils] [] = some (.bool true, [], d) := ⟨false, by kernel_rfl⟩
theorem law4e : ∃ d, callF tbl pu 401 4 [.tsl 4 []] [] = some (.bool true, [], d) := ⟨false, by kernel_rfl⟩
theorem law4 (F : Nat) (l C : List Pt) (hl : l.length ≤ 60) (hC : C.length ≤ 60) (hne : C ≠ []) {d1 d2 : Bool}
    (h13 : callF tbl pu (F + 400) 13 [.tsl 4 (vsL l)] [] = some (oV C, oH C, d1)) (h14 : callF tbl pu (F + 400) 14 [.tsl 4 (vsL l)] [] = some (oV C, oH C, d2)) : ∃ d, callF tbl pu (F + 401) 4 [.tsl 4 (vsL l)] [] = some (.bool true, [], d) := by
  have aw := awakeK (F + 360)
  have h12 := d12 (F + 300) C hC
  have hl' : ¬ (60 : Int) < l.length := by omega
  have tk : (vsL C).take C.length = vsL C := List.take_of_length_le (by rw [vsL_length]; omega)
  rw [oV_ne hne, oH_ne hne] at h13 h14
  unfold bk at h13 h14
  refine ⟨false, ?_⟩
  rw [callF_eq tbl4, Ytcfijihoepkgeaa.c4]
  simp [callV_pure, p9, p13, p14, p12, aw, hl', vsL_length, h13, h14, tk, h12, kRet, nt3, nt2, nt1, flatH, renH, backG]
theorem PureExplorePareto : SayExplorePareto := by
  rintro x0 h0
  rcases h0 with rfl | ⟨es, rfl, _, _, hes⟩
  · obtain ⟨d, hd⟩ := law4n
    exact ⟨_, _, d, hd⟩
  · obtain ⟨l, rfl⟩ := vsL_of hes
    by_cases hl : l.length ≤ 60
    · by_cases hne : l = []
      · subst hne
        obtain ⟨d, hd⟩ := law4e
        exact ⟨_, _, d, hd⟩
      · obtain ⟨C, d1, c1, c2, h13⟩ := dPar 100 l hl
        have hPar := par_perm (par l) c1
        have hCl : C.length ≤ 60 := by
          have := (l13 60 l hl hl l [] [] 100 false (by simp) (by simp) (by omega) (Or.inl rfl)).1
          rw [c1.length_eq]
          exact Nat.le_trans this hl
        obtain ⟨d2, h14⟩ := d14 299 l hl
        rw [ref_par hPar c2] at h14
        have hC : C ≠ [] := by
          intro h
          subst h
          obtain ⟨a, ha⟩ := List.exists_mem_of_ne_nil l hne
          obtain ⟨q, hq, _⟩ := par_cover hPar a ha
          cases hq
        obtain ⟨d, hd⟩ := law4 0 l C hl hCl hC h13 h14
        exact ⟨_, _, d, hd⟩
    · obtain ⟨d, hd⟩ := law4b 0 l (by omega)
      exact ⟨_, _, d, hd⟩
end Go.AM.Ytcfijihoepkgeaa
