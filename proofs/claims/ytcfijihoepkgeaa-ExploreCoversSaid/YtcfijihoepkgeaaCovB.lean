/- The loops of the law ExploreCovers. -/
import Derived.Test.YtcfijihoepkgeaaCovA
set_option linter.unusedVariables false
set_option linter.unusedSimpArgs false
namespace Go.AM.Ytcfijihoepkgeaa
open Go Go.AM
set_option maxRecDepth 100000
set_option maxHeartbeats 0
/-- over the list; over the set -/
def O5 (ls ps : List (List V)) (n m j : Nat) : St := ⟨[.tsl 4 ls, .undef, .undef, .sl 4 0 m 0 m, .undef, .undef, .undef, .undef, .undef, .undef, .undef, .undef, .undef, .undef, .undef, .undef, .undef, .undef, .undef, .undef, .int .i64 n, .int .i64 j, .undef, .undef, .undef, .undef, .undef, .undef, .undef, .undef, .undef, .undef, .undef, .undef, .undef, .undef, .undef, .undef, .undef, .undef, .undef, .undef, .undef, .undef, .undef, .undef, .undef, .undef, .undef, .undef, .undef, .undef, .undef, .undef, .undef, .undef, .undef, .undef, .undef, .undef, .undef, .undef, .undef, .undef, .undef, .undef, .undef, .undef, .undef, .undef, .undef, .undef, .undef, .undef, .undef, .undef, .undef, .undef, .undef, .undef, .undef, .undef, .undef, .undef, .undef, .undef, .undef, .undef, .undef, .undef, .undef, .undef, .undef, .undef, .undef, .undef, .undef], [⟨4, ps, 0, false, true⟩], false⟩
def I5 (ls ps : List (List V)) (n m j k : Nat) (c : Bool) : St := ⟨[.tsl 4 ls, .undef, .undef, .sl 4 0 m 0 m, .int .i64 j, .bool c, .undef, .undef, .undef, .undef, .undef, .undef, .undef, .undef, .undef, .undef, .undef, .undef, .undef, .undef, .int .i64 n, .int .i64 j, .undef, .undef, .undef, .int .i64 m, .int .i64 k, .undef, .undef, .undef, .undef, .undef, .undef, .undef, .undef, .undef, .undef, .undef, .undef, .undef, .undef, .undef, .undef, .undef, .undef, .undef, .undef, .undef, .undef, .undef, .undef, .undef, .undef, .undef, .undef, .undef, .undef, .undef, .undef, .undef, .undef, .undef, .undef, .undef, .undef, .undef, .undef, .undef, .undef, .undef, .undef, .undef, .undef, .undef, .undef, .undef, .undef, .undef, .undef, .undef, .undef, .undef, .undef, .undef, .undef, .undef, .undef, .undef, .undef, .undef, .undef, .undef, .undef, .undef, .undef, .undef, .undef], [⟨4, ps, 0, false, true⟩], false⟩
/-- over the set, twice -/
def Q5 (ps : List (List V)) (m j : Nat) : St := ⟨[.undef, .undef, .undef, .sl 4 0 m 0 m, .undef, .undef, .undef, .undef, .undef, .undef, .undef, .undef, .undef, .undef, .undef, .undef, .undef, .undef, .undef, .undef, .undef, .undef, .undef, .undef, .undef, .undef, .undef, .undef, .undef, .undef, .undef, .undef, .undef, .undef, .undef, .undef, .undef, .undef, .undef, .undef, .undef, .undef, .undef, .undef, .undef, .undef, .undef, .undef, .undef, .undef, .undef, .undef, .undef, .undef, .undef, .undef, .undef, .int .i64 m, .int .i64 j, .undef, .undef, .undef, .undef, .undef, .undef, .undef, .undef, .undef, .undef, .undef, .undef, .undef, .undef, .undef, .undef, .undef, .undef, .undef, .undef, .undef, .undef, .undef, .undef, .undef, .undef, .undef, .undef, .undef, .undef, .undef, .undef, .undef, .undef, .undef, .undef, .undef, .undef], [⟨4, ps, 0, false, true⟩], false⟩
def R5 (ps : List (List V)) (m j k : Nat) : St := ⟨[.undef, .undef, .undef, .sl 4 0 m 0 m, .undef, .undef, .undef, .int .i64 j, .undef, .undef, .undef, .undef, .undef, .undef, .undef, .undef, .undef, .undef, .undef, .undef, .undef, .undef, .undef, .undef, .undef, .undef, .undef, .undef, .undef, .undef, .undef, .undef, .undef, .undef, .undef, .undef, .undef, .undef, .undef, .undef, .undef, .undef, .undef, .undef, .undef, .undef, .undef, .undef, .undef, .undef, .undef, .undef, .undef, .undef, .undef, .undef, .undef, .int .i64 m, .int .i64 j, .undef, .undef, .undef, .int .i64 m, .int .i64 k, .undef, .undef, .undef, .undef, .undef, .undef, .undef, .undef, .undef, .undef, .undef, .undef, .undef, .undef, .undef, .undef, .undef, .undef, .undef, .undef, .undef, .undef, .undef, .undef, .undef, .undef, .undef, .undef, .undef, .undef, .undef, .undef, .undef], [⟨4, ps, 0, false, true⟩], false⟩
theorem i5 (F : Nat) (ls ps : List (List V)) (n m j k : Nat) (c : Bool) (x q : Pt) (hls : ls.length = n) (hps : ps.length = m) (hx : ls[j]? = some x.vs) (hq : ps[k]? = some q.vs) (hj : j < n) (hk : k < m) (hb : m ≤ 100000) :
    kNext (tidy [0, 3, 4, 5, 20, 21, 25, 26] 0) (execC (callF tbl pu (F + 2)) pu 0 (F + 2) c5_b2 (I5 ls ps n m j k c)) = some (I5 ls ps n m j (k + 1) (c || (eqP q x || domP q x))) := by
  have wk : IntKind.i64.wrap ((k : Int) + 1) = (k : Int) + 1 := wrap64 (by omega) (by omega)
  have h15 := d15 (F + 1) q x
  have h11 := d11 F q x
  subst hls hps
  rw [List.getElem?_eq_getElem hj, Option.some_inj] at hx
  rw [List.getElem?_eq_getElem hk, Option.some_inj] at hq
  unfold I5 Pt.vs at *
  cases c with
  | true => simp [c5_b2, c5_r1, c5_a1, hk, wk]
  | false =>
    cases he : eqP q x with
    | true =>
      rw [he] at h15
      simp [c5_b2, c5_r1, c5_a1, hk, hj, wk, hx, hq, callV_pure, p15, p11, h15]
    | false =>
      rw [he] at h15
      simp [c5_b2, c5_r1, c5_a1, hk, hj, wk, hx, hq, callV_pure, p15, p11, h15, h11]
theorem i5e (call : CallT) (F : Nat) (ls ps : List (List V)) (n m j : Nat) (c : Bool) : execC call pu 0 F c5_b2 (I5 ls ps n m j m c) = some (.exit 2, ⟨(I5 ls ps n m j m c).fr.set 27 (.bool false), [⟨4, ps, 0, false, true⟩], false⟩) := by
  simp [I5, c5_b2]
theorem o5 (F : Nat) (l C : List Pt) (j : Nat) (x : Pt) (hx : l[j]? = some x) (hj : j < l.length) (hl : l.length ≤ 60) (hC : C.length ≤ 60) (hc : (C.any fun q => eqP q x || domP q x) = true) :
    kNext (tidy [0, 3, 20, 21] 0) (execC (callF tbl pu (F + 100)) pu 0 (F + 100) c5_b3 (O5 (vsL l) (vsL C) l.length C.length j)) = some (O5 (vsL l) (vsL C) l.length C.length (j + 1)) := by
  have wj : IntKind.i64.wrap ((j : Int) + 1) = (j : Int) + 1 := wrap64 (by omega) (by omega)
  unfold O5
  simp [c5_b3, execC_loop, -kIter_succ, -tidy, hj, vsL_length]
  rw [iter_to (fun k => I5 (vsL l) (vsL C) l.length C.length j k ((C.take k).any fun q => eqP q x || domP q x)) C.length
    (r := (.exit 2, ⟨(I5 (vsL l) (vsL C) l.length C.length j C.length true).fr.set 27 (.bool false), [⟨4, vsL C, 0, false, true⟩], false⟩)) ?h0 (by omega) ?hs ?he (by simp)]
  case h0 => simp [I5]
  case he =>
    have := i5e (callF tbl pu (F + 100)) (F + 100) (vsL l) (vsL C) l.length C.length j true
    rw [List.take_length, hc]
    exact this
  case hs =>
    intro k hk
    have hq : C[k]? = some C[k] := List.getElem?_eq_getElem hk
    have := i5 (F + 98) (vsL l) (vsL C) l.length C.length j k ((C.take k).any fun q => eqP q x || domP q x) x C[k] (vsL_length l) (vsL_length C) (vsL_get hx) (vsL_get hq) hj hk (by omega)
    have e : ((C.take (k + 1)).any fun q => eqP q x || domP q x) = (((C.take k).any fun q => eqP q x || domP q x) || (eqP C[k] x || domP C[k] x)) := by
      rw [List.take_succ_eq_append_getElem hk, List.any_append]
      simp only [List.any_cons, List.any_nil, Bool.or_false]
    rw [this, e]
  simp [I5, wj]
theorem r5 (F : Nat) (ps : List (List V)) (m j k : Nat) (p q : Pt) (hps : ps.length = m) (hp : ps[j]? = some p.vs) (hq : ps[k]? = some q.vs) (hj : j < m) (hk : k < m) (hb : m ≤ 100000) (he : j ≠ k → eqP p q = false) (hd : domP p q = false) :
    kNext (tidy [3, 7, 57, 58, 62, 63] 0) (execC (callF tbl pu (F + 2)) pu 0 (F + 2) c5_b0 (R5 ps m j k)) = some (R5 ps m j (k + 1)) := by
  have wk : IntKind.i64.wrap ((k : Int) + 1) = (k : Int) + 1 := wrap64 (by omega) (by omega)
  have h15 := d15 (F + 1) p q
  have h11 := d11 F p q
  subst hps
  rw [List.getElem?_eq_getElem hj, Option.some_inj] at hp
  rw [List.getElem?_eq_getElem hk, Option.some_inj] at hq
  unfold R5 Pt.vs at *
  by_cases hjk : j = k
  · subst hjk
    simp [c5_b0, c5_r0, c5_a0, hk, wk]
  · have hjk' : ¬ (j : Int) = k := by omega
    rw [he hjk] at h15
    rw [hd] at h11
    simp [c5_b0, c5_r0, c5_a0, hk, hj, wk, hp, hq, hjk, hjk', callV_pure, p15, p11, h15, h11]
theorem r5e (call : CallT) (F : Nat) (ps : List (List V)) (m j : Nat) : execC call pu 0 F c5_b0 (R5 ps m j m) = some (.exit 6, ⟨(R5 ps m j m).fr.set 64 (.bool false), [⟨4, ps, 0, false, true⟩], false⟩) := by
  simp [R5, c5_b0]
theorem q5 (F : Nat) (C : List Pt) (j : Nat) (hj : j < C.length) (hC : C.length ≤ 60) (ho : Own C) :
    kNext (tidy [3, 57, 58] 0) (execC (callF tbl pu (F + 100)) pu 0 (F + 100) c5_b1 (Q5 (vsL C) C.length j)) = some (Q5 (vsL C) C.length (j + 1)) := by
  have wj : IntKind.i64.wrap ((j : Int) + 1) = (j : Int) + 1 := wrap64 (by omega) (by omega)
  unfold Q5
  simp [c5_b1, execC_loop, -kIter_succ, -tidy, hj, vsL_length]
  rw [iter_to (fun k => R5 (vsL C) C.length j k) C.length
    (r := (.exit 6, ⟨(R5 (vsL C) C.length j C.length).fr.set 64 (.bool false), [⟨4, vsL C, 0, false, true⟩], false⟩)) ?h0 (by omega) ?hs ?he (by simp)]
  case h0 => simp [R5]
  case he => exact r5e _ _ _ _ _
  case hs =>
    intro k hk
    have hp : C[j]? = some C[j] := List.getElem?_eq_getElem hj
    have hq : C[k]? = some C[k] := List.getElem?_eq_getElem hk
    refine r5 (F + 98) (vsL C) C.length j k C[j] C[k] (vsL_length C) (vsL_get hp) (vsL_get hq) hj hk (by omega) (fun hjk => ?_) (ho.nd _ (List.getElem_mem hj) _ (List.getElem_mem hk))
    have hd := List.pairwise_iff_getElem.mp ho.dis
    rcases Nat.lt_or_gt_of_ne hjk with h | h
    · exact hd j k hj hk h
    · have := hd k j hk hj h
      rw [Bool.eq_false_iff] at *
      intro h'
      apply this
      rw [eqP_iff] at *
      omega
  simp [R5, wj]
theorem p13 : pu 13 = true := by decide
theorem p9 : pu 9 = true := by decide
theorem awakeK (k : Nat) : callF tbl pu (k + 40) 9 [] [] = some (.bool true, [], false) := by kernel_rfl
theorem law5 (F : Nat) (l C : List Pt) (hl : l.length ≤ 60) (hC : C.length ≤ 60) (hne : C ≠ []) (ho : Own C) (hcov : ∀ x ∈ l, (C.any fun q => eqP q x || domP q x) = true) {d1 d2 : Bool}
    (h13 : callF tbl pu (F + 400) 13 [.tsl 4 (vsL l)] [] = some (oV C, oH C, d1)) (h13' : callF tbl pu (F + 400) 13 [.tsl 4 (vsL C)] [] = some (oV C, oH C, d2)) : ∃ d, callF tbl pu (F + 401) 5 [.tsl 4 (vsL l)] [] = some (.bool true, [], d) := by
  have aw := awakeK (F + 360)
  have h12 := d12 (F + 300) C hC
  have hl' : ¬ (60 : Int) < l.length := by omega
  have tk : (vsL C).take C.length = vsL C := List.take_of_length_le (by rw [vsL_length]; omega)
  rw [oV_ne hne, oH_ne hne] at h13 h13'
  unfold bk at h13 h13'
  refine ⟨false, ?_⟩
  rw [callF_eq tbl5, Ytcfijihoepkgeaa.c5]
  simp [execC_loop, -kIter_succ, -tidy, callV_pure, p9, p13, aw, hl', vsL_length, h13]
  rw [iter_to (fun j => O5 (vsL l) (vsL C) l.length C.length j) l.length
    (r := (.exit 0, ⟨(O5 (vsL l) (vsL C) l.length C.length l.length).fr.set 22 (.bool false), [⟨4, vsL C, 0, false, true⟩], false⟩)) ?h0 (by omega) ?hs ?he (by simp)]
  case h0 => simp [O5]
  case he => simp [O5, c5_b3]
  case hs =>
    intro j hj
    exact o5 (F + 300) l C j l[j] (List.getElem?_eq_getElem hj) hj hl hC (hcov _ (List.getElem_mem hj))
  simp [O5, execC_loop, -kIter_succ, -tidy]
  rw [iter_to (fun j => Q5 (vsL C) C.length j) C.length
    (r := (.exit 4, ⟨(Q5 (vsL C) C.length C.length).fr.set 59 (.bool false), [⟨4, vsL C, 0, false, true⟩], false⟩)) ?h0 (by omega) ?hs ?he (by simp)]
  case h0 => simp [Q5]
  case he => simp [Q5, c5_b1]
  case hs =>
    intro j hj
    exact q5 (F + 300) C j hj hC ho
  simp [Q5, callV_pure, p13, p12, vsL_length, tk, h13', h12, kRet, nt3, nt2, nt1, flatH, renH, backG]
end Go.AM.Ytcfijihoepkgeaa
