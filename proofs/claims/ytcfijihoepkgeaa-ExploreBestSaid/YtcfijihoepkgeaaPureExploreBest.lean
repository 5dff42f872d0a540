/- The law ExploreBest over the executor: no conditions beyond the arguments' types. -/
import Derived.Test.YtcfijihoepkgeaaSayExploreBest
import Derived.Test.YtcfijihoepkgeaaBeB
set_option linter.unusedVariables false
set_option linter.unusedSimpArgs false
namespace Go.AM.Ytcfijihoepkgeaa
open Go Go.AM
set_option maxRecDepth 100000
set_option maxHeartbeats 0
theorem awakeK (k : Nat) : callF tbl pu (k + 40) 9 [] [] = some (.bool true, [], false) := by kernel_rfl
theorem p9 : pu 9 = true := by decide
theorem p13 : pu 13 = true := by decide
theorem p16 : pu 16 = true := by decide
theorem p17 : pu 17 = true := by decide
theorem nil16 (k : Nat) (area ii : Int) : callF tbl pu (k + 100) 16 [.nils, .int .i64 area, .int .i64 ii] [] = some (.tup [.agg zP.vs, .bool false], [], true) := by
  rw [callF_eq tbl16, Ytcfijihoepkgeaa.c16]
  unfold Pt.vs zP
  simp [execC_loop, c16_b0]
theorem nil17 (k : Nat) (area ii : Int) : callF tbl pu (k + 100) 17 [.nils, .int .i64 area, .int .i64 ii] [] = some (.int .i64 (-1), [], false) := by
  rw [callF_eq tbl17, Ytcfijihoepkgeaa.c17]
  simp [execC_loop, c17_b0]
theorem law6b (k : Nat) (v : V) (area ii : Int) (hv : v.lst = true) (ht : v.tree = true) (hl : 60 < lenV v) : ∃ d, callF tbl pu (k + 401) 6 [v, .int .i64 area, .int .i64 ii] [] = some (.bool true, [], d) := by
  have aw := awakeK (k + 360)
  have hl' : (60 : Int) < lenV v := by omega
  refine ⟨false, ?_⟩
  rw [callF_eq tbl6, Ytcfijihoepkgeaa.c6]
  simp [callV_pure, p9, aw, kLen_lst, hv, hl']
/-- no point within the limits -/
theorem law6n (k : Nat) (v : V) (area ii : Int) (hv : v.lst = true) (ht : v.tree = true) (hl : lenV v ≤ 60) {d1 d2 : Bool}
    (h16 : callF tbl pu (k + 400) 16 [v, .int .i64 area, .int .i64 ii] [] = some (.tup [.agg zP.vs, .bool false], [], d1))
    (h17 : callF tbl pu (k + 400) 17 [v, .int .i64 area, .int .i64 ii] [] = some (.int .i64 (-1), [], d2)) : ∃ d, callF tbl pu (k + 401) 6 [v, .int .i64 area, .int .i64 ii] [] = some (.bool true, [], d) := by
  have aw := awakeK (k + 360)
  have hl' : ¬ (60 : Int) < lenV v := by omega
  refine ⟨true, ?_⟩
  rw [callF_eq tbl6, Ytcfijihoepkgeaa.c6]
  unfold zP Pt.vs at *
  simp [callV_pure, p9, p16, p17, aw, kLen_lst, hv, ht, hl', h16, h17, eqL, eqV]
theorem law6s (k : Nat) (l C : List Pt) (area ii : Int) (i : Nat) (p q : Pt) (hl : l.length ≤ 60) (hi : i < l.length) (hp : l[i]? = some p) (hC : C ≠ []) {d1 d2 d3 d4 : Bool} (e1 : q.cy = p.cy) (e2 : q.ar = p.ar)
    (h16 : callF tbl pu (k + 400) 16 [.tsl 4 (vsL l), .int .i64 area, .int .i64 ii] [] = some (.tup [.agg p.vs, .bool true], [], d1))
    (h17 : callF tbl pu (k + 400) 17 [.tsl 4 (vsL l), .int .i64 area, .int .i64 ii] [] = some (.int .i64 i, [], d2))
    (h13 : callF tbl pu (k + 400) 13 [.tsl 4 (vsL l)] [] = some (oV C, oH C, d3))
    (h16' : callF tbl pu (k + 400) 16 [.tsl 4 (vsL C), .int .i64 area, .int .i64 ii] [] = some (.tup [.agg q.vs, .bool true], [], d4)) : ∃ d, callF tbl pu (k + 401) 6 [.tsl 4 (vsL l), .int .i64 area, .int .i64 ii] [] = some (.bool true, [], d) := by
  have aw := awakeK (k + 360)
  have hl' : ¬ (60 : Int) < l.length := by omega
  have hp' := vsL_get hp
  have hi2 : i < (vsL l).length := by rw [vsL_length]; exact hi
  rw [List.getElem?_eq_getElem hi2, Option.some_inj] at hp'
  rw [oV_ne hC, oH_ne hC] at h13
  have tk : (vsL C).take C.length = vsL C := List.take_of_length_le (by rw [vsL_length]; omega)
  have i0 : ¬ (i : Int) < 0 := by omega
  refine ⟨true, ?_⟩
  rw [callF_eq tbl6, Ytcfijihoepkgeaa.c6]
  unfold bk Pt.vs at *
  simp [callV_pure, p9, p16, p17, p13, aw, hl', h16, h17, h13, i0, vsL_length, hi, hp', tk, h16', kRet, backG, nt3, nt2, nt1, flatH, renH, eqL, eqV, c6_r0, c6_a0, e1, e2]
theorem vsL_of : ∀ {es : List (List V)}, (∀ x ∈ es, S23 x) → ∃ l, es = vsL l
  | [], _ => ⟨[], rfl⟩
  | e :: es, h => by
    obtain ⟨l, rfl⟩ := vsL_of (es := es) fun x hx => h x (by simp [hx])
    obtain ⟨a, b, c, d, rfl, _⟩ := flat23 (h e (by simp))
    exact ⟨⟨a, b, c, d⟩ :: l, rfl⟩
theorem best_none {area ii : Int} {l : List Pt} (h : bestN area ii l l.length = none) : ptO (bestN area ii l l.length) = zP := by rw [h]; rfl
theorem PureExploreBest : SayExploreBest := by
  rintro x0 x1 x2 h0 ⟨area, rfl, _⟩ ⟨ii, rfl, _⟩
  rcases h0 with rfl | ⟨es, rfl, _, _, hes⟩
  · obtain ⟨d, hd⟩ := law6n 0 .nils area ii rfl rfl (by simp [lenV]) (nil16 300 area ii) (nil17 300 area ii)
    exact ⟨_, _, d, hd⟩
  · obtain ⟨l, rfl⟩ := vsL_of hes
    by_cases hl : l.length ≤ 60
    · obtain ⟨d1, h16⟩ := d16 300 l area ii hl
      obtain ⟨d2, h17⟩ := d17 300 l area ii hl
      cases hB : bestN area ii l l.length with
      | none =>
        rw [hB] at h16 h17
        obtain ⟨d, hd⟩ := law6n 0 (.tsl 4 (vsL l)) area ii rfl rfl (by simpa [lenV, vsL_length] using hl) h16 h17
        exact ⟨_, _, d, hd⟩
      | some o =>
        obtain ⟨i, p⟩ := o
        rw [hB] at h16 h17
        obtain ⟨C, d3, c1, c2, h13⟩ := dPar 100 l hl
        have hPar := par_perm (par l) c1
        obtain ⟨j, q, q1, q2, q3⟩ := best_par hPar hB
        have hCl : C.length ≤ 60 := by
          have := (l13 60 l hl hl l [] [] 100 false (by simp) (by simp) (by omega) (Or.inl rfl)).1
          rw [c1.length_eq]
          exact Nat.le_trans this hl
        have hC : C ≠ [] := by
          intro h
          subst h
          cases q1
        obtain ⟨d4, h16'⟩ := d16 300 C area ii hCl
        rw [q1] at h16'
        obtain ⟨hi, hp⟩ := bestN_get hB
        obtain ⟨d, hd⟩ := law6s 0 l C area ii i p q hl hi hp hC q2 q3 h16 h17 h13 h16'
        exact ⟨_, _, d, hd⟩
    · obtain ⟨d, hd⟩ := law6b 0 (.tsl 4 (vsL l)) area ii rfl rfl (by simp [lenV, vsL_length]; omega)
      exact ⟨_, _, d, hd⟩
end Go.AM.Ytcfijihoepkgeaa
