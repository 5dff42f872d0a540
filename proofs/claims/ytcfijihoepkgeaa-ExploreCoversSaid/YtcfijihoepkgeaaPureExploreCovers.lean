/- The law ExploreCovers over the executor: no conditions beyond the arguments' types. -/
import Derived.Test.YtcfijihoepkgeaaSayExploreCovers
import Derived.Test.YtcfijihoepkgeaaCovB
set_option linter.unusedVariables false
set_option linter.unusedSimpArgs false
namespace Go.AM.Ytcfijihoepkgeaa
open Go Go.AM
set_option maxRecDepth 100000
set_option maxHeartbeats 0
theorem vsL_of : ∀ {es : List (List V)}, (∀ x ∈ es, S23 x) → ∃ l, es = vsL l
  | [], _ => ⟨[], rfl⟩
  | e :: es, h => by
    obtain ⟨l, rfl⟩ := vsL_of (es := es) fun x hx => h x (by simp [hx])
    obtain ⟨a, b, c, d, rfl, _⟩ := flat23 (h e (by simp))
    exact ⟨⟨a, b, c, d⟩ :: l, rfl⟩
theorem law5b (k : Nat) (l : List Pt) (hl : 60 < l.length) : ∃ d, callF tbl pu (k + 401) 5 [.tsl 4 (vsL l)] [] = some (.bool true, [], d) := by
  have aw := awakeK (k + 360)
  have hl' : (60 : Int) < l.length := by omega
  refine ⟨false, ?_⟩
  rw [callF_eq tbl5, Ytcfijihoepkgeaa.c5]
  simp [callV_pure, p9, aw, vsL_length, hl']
theorem law5n : ∃ d, callF tbl pu 401 5 [.nils] [] = some (.bool true, [], d) := ⟨false, by kernel_rfl⟩
theorem law5e : ∃ d, callF tbl pu 401 5 [.tsl 4 []] [] = some (.bool true, [], d) := ⟨false, by kernel_rfl⟩
theorem PureExploreCovers : SayExploreCovers := by
  rintro x0 h0
  rcases h0 with rfl | ⟨es, rfl, _, _, hes⟩
  · obtain ⟨d, hd⟩ := law5n
    exact ⟨_, _, d, hd⟩
  · obtain ⟨l, rfl⟩ := vsL_of hes
    by_cases hl : l.length ≤ 60
    · by_cases hne : l = []
      · subst hne
        obtain ⟨d, hd⟩ := law5e
        exact ⟨_, _, d, hd⟩
      · obtain ⟨C, d1, c1, c2, h13⟩ := dPar 100 l hl
        have hPar := par_perm (par l) c1
        have hCl : C.length ≤ 60 := by
          have := (l13 60 l hl hl l [] [] 100 false (by simp) (by simp) (by omega) (Or.inl rfl)).1
          rw [c1.length_eq]
          exact Nat.le_trans this hl
        have ho := own_of_par hPar
        obtain ⟨D, d2, e1, e2, h13'⟩ := dPar 100 C hCl
        rw [own_par ho] at e1
        have hD := srt_unique ho e1 c2 e2
        subst hD
        have hcov : ∀ x ∈ l, (D.any fun q => eqP q x || domP q x) = true := by
          intro x hx
          obtain ⟨q, hq, g⟩ := par_cover hPar x hx
          refine List.any_eq_true.mpr ⟨q, hq, ?_⟩
          rw [Bool.or_eq_true, eqP_iff, domP_iff]
          omega
        have hC : D ≠ [] := by
          intro h
          subst h
          obtain ⟨a, ha⟩ := List.exists_mem_of_ne_nil l hne
          have := hcov a ha
          simp at this
        obtain ⟨d, hd⟩ := law5 0 l D hl hCl hC ho hcov h13 h13'
        exact ⟨_, _, d, hd⟩
    · obtain ⟨d, hd⟩ := law5b 0 l (by omega)
      exact ⟨_, _, d, hd⟩
end Go.AM.Ytcfijihoepkgeaa
