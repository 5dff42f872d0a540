/- A map from blocks to sums, as rows; the shares of the blocks of a path: plain facts, no program. -/
import Derived.Test.YtegibclhopenmaaAmPu
import Derived.Test.YtegibclhopenmaaFmD
set_option linter.unusedVariables false
set_option linter.unusedSimpArgs false
namespace Go.AM.Ytegibclhopenmaa
open Go Go.AM
/-- a map: the key, and the two sums -/
abbrev Mp := List (Int × Int × Int)
def rwM (x : Int × Int × Int) : List V := [.int .i64 x.1, .int .i64 x.1, .int .i64 x.2.1, .int .i64 x.2.2]
def getM : Mp → Int → Int × Int
  | [], _ => (0, 0)
  | x :: m, b => if b = x.1 then x.2 else getM m b
def putM : Mp → Int → Int × Int → Mp
  | [], b, p => [(b, p)]
  | x :: m, b, p => if b = x.1 then (b, p) :: m else x :: putM m b p
theorem findR_ne {b k : Int} {p : Int × Int} {es : List (List V)} {i : Nat} (h : ¬ b = k) : findR (some .i64) (.int .i64 b) (rwM (k, p) :: es) i = findR (some .i64) (.int .i64 b) es (i + 1) := by
  simp [findR, rwM, keyEq, h]
theorem findM (b : Int) : ∀ (m : Mp) (i : Nat), (findR (some .i64) (.int .i64 b) (m.map rwM) i = some none ∧ getM m b = (0, 0) ∧ ∀ p, putM m b p = m ++ [(b, p)]) ∨
    ∃ j, j < m.length ∧ findR (some .i64) (.int .i64 b) (m.map rwM) i = some (some (i + j, [.int .i64 b, .int .i64 (getM m b).1, .int .i64 (getM m b).2])) ∧ ∀ p, putM m b p = m.set j (b, p)
  | [], i => .inl ⟨rfl, rfl, fun _ => rfl⟩
  | x :: m, i => by
    obtain ⟨k, v, c⟩ := x
    by_cases h : b = k
    · subst h
      exact .inr ⟨0, by simp, by simp [findR, rwM, keyEq, getM], fun p => by simp [putM]⟩
    · rcases findM b m (i + 1) with ⟨h1, h2, h3⟩ | ⟨j, h1, h2, h3⟩
      · refine .inl ⟨?_, ?_, fun p => ?_⟩
        · rw [List.map_cons, findR_ne h, h1]
        · simp [getM, h, h2]
        · simp [putM, h, h3]
      · refine .inr ⟨j + 1, by simpa using h1, ?_, fun p => ?_⟩
        · rw [List.map_cons, findR_ne h, h2, show i + 1 + j = i + (j + 1) by omega]
          simp [getM, h]
        · simp [putM, h, h3]
theorem lkM (m : Mp) (b : Int) : ∃ x, lkV (some .i64) true (.agg [.int .i64 0, .int .i64 0, .int .i64 0]) false (.int .i64 b) (m.map rwM) = some (.agg [.int .i64 x, .int .i64 (getM m b).1, .int .i64 (getM m b).2]) := by
  rcases findM b m 0 with ⟨h1, h2, -⟩ | ⟨j, -, h2, -⟩
  · exact ⟨0, by simp [lkV, h1, h2]⟩
  · exact ⟨b, by simp [lkV, h2, valM]⟩
theorem upMM (m : Mp) (b : Int) (p : Int × Int) : upM (some .i64) (.int .i64 b) [.int .i64 b, .int .i64 p.1, .int .i64 p.2] (m.map rwM) = some ((putM m b p).map rwM) := by
  rcases findM b m 0 with ⟨h1, -, h3⟩ | ⟨j, -, h2, h3⟩
  · simp [upM, h1, h3, rwM]
  · simp [upM, h2, h3, rwM, List.map_set]
theorem getM_put (m : Mp) (b k : Int) (p : Int × Int) : getM (putM m b p) k = if k = b then p else getM m k := by
  induction m with
  | nil => simp [putM, getM]
  | cons x m ih =>
    unfold putM
    by_cases h : b = x.1
    · rw [if_pos h]
      show (if k = b then p else getM m k) = if k = b then p else (if k = x.1 then x.2 else getM m k)
      by_cases h2 : k = b
      · rw [if_pos h2, if_pos h2]
      · rw [if_neg h2, if_neg h2, if_neg (fun hh => h2 (hh.trans h.symm))]
    · rw [if_neg h]
      show (if k = x.1 then x.2 else getM (putM m b p) k) = if k = b then p else (if k = x.1 then x.2 else getM m k)
      rw [ih]
      by_cases h2 : k = x.1
      · rw [if_pos h2, if_neg (fun hh => h (hh.symm.trans h2)), if_pos h2]
      · rw [if_neg h2, if_neg h2]
theorem keys_put (m : Mp) (b : Int) (p : Int × Int) : (putM m b p).map (·.1) = if b ∈ m.map (·.1) then m.map (·.1) else m.map (·.1) ++ [b] := by
  induction m with
  | nil => simp [putM]
  | cons x m ih =>
    unfold putM
    by_cases h : b = x.1
    · rw [if_pos h]; simp [h]
    · rw [if_neg h]
      simp only [List.map_cons, ih, List.mem_cons]
      by_cases h2 : b ∈ m.map (·.1)
      · simp [h2]
      · simp [h2, h]
theorem nodup_put {m : Mp} (h : (m.map (·.1)).Nodup) (b : Int) (p : Int × Int) : ((putM m b p).map (·.1)).Nodup := by
  rw [keys_put]
  split
  · exact h
  · rename_i h2
    rw [List.nodup_append]
    refine ⟨h, by simp, fun a ha c hc e => h2 ?_⟩
    obtain rfl : c = b := by simpa using hc
    exact e ▸ ha
theorem mem_put {m : Mp} {b k : Int} {p : Int × Int} : k ∈ (putM m b p).map (·.1) ↔ k ∈ m.map (·.1) ∨ k = b := by
  rw [keys_put]
  split
  · rename_i h
    constructor
    · exact .inl
    · rintro (h1 | rfl)
      · exact h1
      · exact h
  · simp
theorem len_put (m : Mp) (b : Int) (p : Int × Int) : (putM m b p).length ≤ m.length + 1 := by
  have := congrArg List.length (keys_put m b p)
  split at this <;> simp at this <;> omega
theorem snocRec {α : Type} {P : List α → Prop} (nil : P []) (snoc : ∀ S x, P S → P (S ++ [x])) (S : List α) : P S := by
  have : ∀ R : List α, P R.reverse := by
    intro R
    induction R with
    | nil => exact nil
    | cons x R ih => rw [List.reverse_cons]; exact snoc _ _ ih
  have := this S.reverse
  rwa [List.reverse_reverse] at this
/-! The map after the first stretches. -/
section
variable (C : Int → Int → Int)
def accM (C : Int → Int → Int) (S : List (Int × Nat)) : Mp := S.foldl (fun m x => putM m x.1 ((getM m x.1).1 + x.2, (getM m x.1).2 + C x.1 x.2)) []
def sumV (S : List (Int × Nat)) (b : Int) : Int := (S.map fun x => if x.1 = b then (x.2 : Int) else 0).sum
def sumC (C : Int → Int → Int) (S : List (Int × Nat)) (b : Int) : Int := (S.map fun x => if x.1 = b then C x.1 x.2 else 0).sum
theorem accM_snoc (S : List (Int × Nat)) (x : Int × Nat) : accM C (S ++ [x]) = putM (accM C S) x.1 ((getM (accM C S) x.1).1 + x.2, (getM (accM C S) x.1).2 + C x.1 x.2) := by
  simp [accM]
theorem accM_get : ∀ (S : List (Int × Nat)) (b : Int), getM (accM C S) b = (sumV S b, sumC C S b) := by
  intro S
  induction S using snocRec with
  | nil => intro b; rfl
  | snoc S x ih =>
    intro b
    rw [accM_snoc, getM_put]
    by_cases h : b = x.1
    · subst h
      rw [if_pos rfl, ih]
      simp [sumV, sumC]
    · rw [if_neg h, ih]
      have : ¬ x.1 = b := fun e => h e.symm
      simp [sumV, sumC, this]
theorem accM_nodup : ∀ (S : List (Int × Nat)), ((accM C S).map (·.1)).Nodup := by
  intro S
  induction S using snocRec with
  | nil => simp [accM]
  | snoc S x ih => rw [accM_snoc]; exact nodup_put ih _ _
theorem accM_mem : ∀ (S : List (Int × Nat)) (k : Int), k ∈ (accM C S).map (·.1) ↔ ∃ x ∈ S, x.1 = k := by
  intro S
  induction S using snocRec with
  | nil => intro k; simp [accM]
  | snoc S x ih =>
    intro k
    rw [accM_snoc, mem_put, ih]
    constructor
    · rintro (⟨y, h1, h2⟩ | h)
      · exact ⟨y, List.mem_append.2 (.inl h1), h2⟩
      · exact ⟨x, by simp, h.symm⟩
    · rintro ⟨y, h1, h2⟩
      rcases List.mem_append.1 h1 with h1 | h1
      · exact .inl ⟨y, h1, h2⟩
      · obtain rfl : y = x := by simpa using h1
        exact .inr h2.symm
theorem accM_len : ∀ (S : List (Int × Nat)), (accM C S).length ≤ S.length := by
  intro S
  induction S using snocRec with
  | nil => simp [accM]
  | snoc S x ih =>
    rw [accM_snoc, List.length_append]
    have := len_put (accM C S) x.1 ((getM (accM C S) x.1).1 + x.2, (getM (accM C S) x.1).2 + C x.1 x.2)
    simp only [List.length_cons, List.length_nil]
    omega
end
end Go.AM.Ytegibclhopenmaa

set_option linter.unusedVariables false
set_option linter.unusedSimpArgs false
namespace Go.AM.Ytegibclhopenmaa
open Go Go.AM
/-- visits of a block among the first j -/
def vis (pa : V) (b : Int) : Nat → Int
  | 0 => 0
  | j + 1 => vis pa b j + if ic pa j 0 = b then 1 else 0
/-- the cycles of a visit -/
def cyV (bl sc pa : V) (n : Nat) (b : Int) (i : Nat) : Int := if i + 1 < n ∧ ic pa (i + 1) 0 = b ∧ SPp bl sc b then ic sc b.toNat 0 else ic sc b.toNat 1
/-- the cycles of a block's visits among the first j -/
def cyc (bl sc pa : V) (n : Nat) (b : Int) : Nat → Int
  | 0 => 0
  | j + 1 => cyc bl sc pa n b j + if ic pa j 0 = b then cyV bl sc pa n b j else 0
theorem strL_one {bl sc : V} {b : Int} : strL bl sc b 1 = ic sc b.toNat 1 := by
  unfold strL; split <;> simp
theorem strL_succ {bl sc : V} {b : Int} {v : Nat} (h : SPp bl sc b) : strL bl sc b ((v + 1 : Nat) : Int) = strL bl sc b v + ic sc b.toNat 0 := by
  unfold strL
  rw [if_pos h, if_pos h]
  have : (((v + 1 : Nat) : Int) - 1) = ((v : Int) - 1) + 1 := by omega
  rw [this, Int.add_mul]
  omega
theorem sumV_snoc (S : List (Int × Nat)) (x : Int × Nat) (b : Int) : sumV (S ++ [x]) b = sumV S b + if x.1 = b then (x.2 : Int) else 0 := by simp [sumV]
theorem sumC_snoc (C : Int → Int → Int) (S : List (Int × Nat)) (x : Int × Nat) (b : Int) : sumC C (S ++ [x]) b = sumC C S b + if x.1 = b then C x.1 x.2 else 0 := by simp [sumC]
theorem stA_vis (bl sc pa : V) (b : Int) : ∀ j, sumV (stA bl sc pa j) b = vis pa b (j + 1)
  | 0 => by simp [stA, ct, sumV, vis]
  | j + 1 => by
    have ih := stA_vis bl sc pa b j
    have hv : vis pa b (j + 1 + 1) = vis pa b (j + 1) + if ic pa (j + 1) 0 = b then 1 else 0 := rfl
    rw [hv, ← ih]
    unfold stA
    by_cases cs : ic pa j 0 = ic pa (j + 1) 0 ∧ SPp bl sc (ic pa (j + 1) 0)
    · have hct : ct bl sc pa (j + 1) = ((ct bl sc pa j).1, (ct bl sc pa j).2 + 1) := by simp only [ct]; rw [if_pos cs]
      rw [hct]
      simp only
      rw [sumV_snoc, sumV_snoc]
      simp only [cs.1]
      split <;> omega
    · have hct : ct bl sc pa (j + 1) = ((ct bl sc pa j).1 ++ [(ic pa j 0, (ct bl sc pa j).2)], 1) := by simp only [ct]; rw [if_neg cs]
      rw [hct]
      simp only
      rw [sumV_snoc (_ ++ _)]
      simp only
      split <;> simp
theorem stA_cyc (bl sc pa : V) (b : Int) (n : Nat) : ∀ j, j < n → sumC (strL bl sc) (stA bl sc pa j) b = cyc bl sc pa n b j + if ic pa j 0 = b then ic sc b.toNat 1 else 0
  | 0, _ => by
    simp only [stA, ct, cyc]
    rw [sumC_snoc]
    simp only [sumC, List.map_nil, List.sum_nil]
    split
    · rename_i h; rw [h]
      have := @strL_one bl sc b
      simpa using this
    · rfl
  | j + 1, hj => by
    have ih := stA_cyc bl sc pa b n j (by omega)
    have hv : cyc bl sc pa n b (j + 1) = cyc bl sc pa n b j + if ic pa j 0 = b then cyV bl sc pa n b j else 0 := rfl
    rw [hv]
    unfold stA at ih ⊢
    by_cases cs : ic pa j 0 = ic pa (j + 1) 0 ∧ SPp bl sc (ic pa (j + 1) 0)
    · have hct : ct bl sc pa (j + 1) = ((ct bl sc pa j).1, (ct bl sc pa j).2 + 1) := by simp only [ct]; rw [if_pos cs]
      rw [hct]
      simp only
      rw [sumC_snoc] at ih ⊢
      simp only at ih ⊢
      by_cases hb : ic pa j 0 = b
      · have hb' : ic pa (j + 1) 0 = b := cs.1 ▸ hb
        have hcy : cyV bl sc pa n b j = ic sc b.toNat 0 := by
          unfold cyV; rw [if_pos ⟨hj, hb', hb' ▸ cs.2⟩]
        have hs := strL_succ (bl := bl) (sc := sc) (b := b) (v := (ct bl sc pa j).2) (hb' ▸ cs.2)
        simp only [hb, hb', if_true, hcy] at ih ⊢
        omega
      · have hb' : ¬ ic pa (j + 1) 0 = b := fun h => hb (cs.1.trans h)
        simp only [hb, hb', if_false] at ih ⊢
        omega
    · have hct : ct bl sc pa (j + 1) = ((ct bl sc pa j).1 ++ [(ic pa j 0, (ct bl sc pa j).2)], 1) := by simp only [ct]; rw [if_neg cs]
      rw [hct]
      simp only
      rw [sumC_snoc _ (_ ++ _), ih]
      simp only
      have h1 : (if ic pa (j + 1) 0 = b then strL bl sc (ic pa (j + 1) 0) ((1 : Nat) : Int) else 0) = if ic pa (j + 1) 0 = b then ic sc b.toNat 1 else 0 := by
        split
        · rename_i h; rw [h]; exact strL_one
        · rfl
      rw [h1]
      by_cases hb : ic pa j 0 = b
      · have hcy : cyV bl sc pa n b j = ic sc b.toNat 1 := by
          unfold cyV
          refine if_neg ?_
          rintro ⟨-, h2, h3⟩
          exact cs ⟨hb.trans h2.symm, h2.symm ▸ h3⟩
        simp only [hb, if_true, hcy]
      · simp only [hb, if_false]
theorem stA_cycN (bl sc pa : V) (b : Int) (n : Nat) (hn : 0 < n) : sumC (strL bl sc) (stA bl sc pa (n - 1)) b = cyc bl sc pa n b n := by
  obtain ⟨m, rfl⟩ : ∃ m, n = m + 1 := ⟨n - 1, by omega⟩
  rw [show m + 1 - 1 = m by omega, stA_cyc bl sc pa b (m + 1) m (by omega)]
  have : cyV bl sc pa (m + 1) b m = ic sc b.toNat 1 := by
    unfold cyV; rw [if_neg (fun hh => by omega)]
  simp only [cyc, this]
theorem stA_sum (bl sc pa : V) : ∀ j, ((stA bl sc pa j).map fun x => (x.2 : Int)).sum = j + 1
  | 0 => by simp [stA, ct]
  | j + 1 => by
    have ih := stA_sum bl sc pa j
    unfold stA at ih ⊢
    by_cases cs : ic pa j 0 = ic pa (j + 1) 0 ∧ SPp bl sc (ic pa (j + 1) 0)
    · have hct : ct bl sc pa (j + 1) = ((ct bl sc pa j).1, (ct bl sc pa j).2 + 1) := by simp only [ct]; rw [if_pos cs]
      rw [hct]
      simp only [List.map_append, List.sum_append, List.map_cons, List.map_nil, List.sum_cons, List.sum_nil] at ih ⊢
      omega
    · have hct : ct bl sc pa (j + 1) = ((ct bl sc pa j).1 ++ [(ic pa j 0, (ct bl sc pa j).2)], 1) := by simp only [ct]; rw [if_neg cs]
      rw [hct]
      simp only [List.map_append, List.sum_append, List.map_cons, List.map_nil, List.sum_cons, List.sum_nil] at ih ⊢
      omega
/-! The list of the shares. -/
def shL (m : Mp) : Mp := ((m.map (·.1)).mergeSort leZ).map fun k => (k, getM m k)
def refL (bl sc pa : V) (n : Nat) : Nat → Mp
  | 0 => []
  | k + 1 => refL bl sc pa n k ++ if 0 < vis pa k n then [((k : Int), vis pa k n, cyc bl sc pa n k n)] else []
theorem refL_eq (bl sc pa : V) (n : Nat) : ∀ k, refL bl sc pa n k = (((List.range k).filter fun (i : Nat) => decide (0 < vis pa i n)).map fun (i : Nat) => (i : Int)).map fun (i : Int) => (i, vis pa i n, cyc bl sc pa n i n)
  | 0 => rfl
  | k + 1 => by
    rw [refL, refL_eq bl sc pa n k, List.range_succ, List.filter_append, List.map_append, List.map_append]
    by_cases h : 0 < vis pa k n
    · simp [h]
    · simp [h]
theorem sumV_pos {S : List (Int × Nat)} (h : ∀ x ∈ S, 1 ≤ x.2) (b : Int) : 0 ≤ sumV S b ∧ (0 < sumV S b ↔ ∃ x ∈ S, x.1 = b) := by
  induction S with
  | nil => simp [sumV]
  | cons x S ih =>
    obtain ⟨h1, h2⟩ := ih (fun y hy => h y (by simp [hy]))
    have hx := h x (by simp)
    have e : sumV (x :: S) b = (if x.1 = b then (x.2 : Int) else 0) + sumV S b := by simp [sumV]
    rw [e]
    by_cases hb : x.1 = b
    · rw [if_pos hb]
      exact ⟨by omega, by constructor; · intro _; exact ⟨x, by simp, hb⟩
                          · intro _; omega⟩
    · rw [if_neg hb]
      refine ⟨by omega, ?_⟩
      rw [show (0 : Int) + sumV S b = sumV S b by omega, h2]
      constructor
      · rintro ⟨y, hy, e1⟩; exact ⟨y, by simp [hy], e1⟩
      · rintro ⟨y, hy, e1⟩
        rcases List.mem_cons.1 hy with rfl | hy
        · exact absurd e1 hb
        · exact ⟨y, hy, e1⟩
theorem leZ_trans : ∀ a b c : Int, leZ a b = true → leZ b c = true → leZ a c = true := fun a b c h1 h2 => by simp only [leZ, decide_eq_true_eq] at *; omega
theorem leZ_total : ∀ a b : Int, (leZ a b || leZ b a) = true := fun a b => by simp only [leZ, Bool.or_eq_true, decide_eq_true_eq]; omega
theorem sort_eq {l r : List Int} (h : l.Perm r) (hr : r.Pairwise (· < ·)) : l.mergeSort leZ = r := by
  refine List.Perm.eq_of_pairwise (le := fun a b => leZ a b = true) (fun a b _ _ h1 h2 => ?_) (List.pairwise_mergeSort leZ_trans leZ_total l) (hr.imp fun h => by simp only [leZ, decide_eq_true_eq]; omega) ((List.mergeSort_perm l leZ).trans h)
  simp only [leZ, decide_eq_true_eq] at h1 h2
  omega
theorem shL_eq {bl sc pa : V} (h0 : 0 < lenV pa) (hok : ∀ i, i < lenV pa → okP bl pa i) (hS : ∀ x ∈ stA bl sc pa (lenV pa - 1), 0 ≤ x.1 ∧ x.1 < lenV bl ∧ 1 ≤ x.2) : shL (accM (strL bl sc) (stA bl sc pa (lenV pa - 1))) = refL bl sc pa (lenV pa) (lenV bl) := by
  have hg := accM_get (strL bl sc) (stA bl sc pa (lenV pa - 1))
  have hm := accM_mem (strL bl sc) (stA bl sc pa (lenV pa - 1))
  have hnd := accM_nodup (strL bl sc) (stA bl sc pa (lenV pa - 1))
  have hpos := sumV_pos (S := stA bl sc pa (lenV pa - 1)) (fun x hx => (hS x hx).2.2)
  rw [refL_eq]
  unfold shL
  have hperm : ((accM (strL bl sc) (stA bl sc pa (lenV pa - 1))).map (·.1)).Perm (((List.range (lenV bl)).filter fun (i : Nat) => decide (0 < vis pa i (lenV pa))).map fun (i : Nat) => (i : Int)) := by
    refine (List.perm_ext_iff_of_nodup hnd ?_).2 fun k => ?_
    · exact List.pairwise_map.2 ((List.nodup_range.sublist List.filter_sublist).imp fun hne e => hne (by omega))
    · rw [hm, ← (hpos k).2, stA_vis, show lenV pa - 1 + 1 = lenV pa by omega]
      simp only [List.mem_map, List.mem_filter, List.mem_range, decide_eq_true_eq]
      constructor
      · intro hk
        have hk2 : ∃ x ∈ stA bl sc pa (lenV pa - 1), x.1 = k := by
          rw [← (hpos k).2, stA_vis, show lenV pa - 1 + 1 = lenV pa by omega]; exact hk
        obtain ⟨x, hx, rfl⟩ := hk2
        have := hS x hx
        refine ⟨x.1.toNat, ⟨by omega, ?_⟩, by omega⟩
        rw [Int.toNat_of_nonneg this.1]; exact hk
      · rintro ⟨i, ⟨h1, h2⟩, rfl⟩
        exact h2
  rw [sort_eq hperm (List.pairwise_map.2 ((List.pairwise_lt_range.sublist List.filter_sublist).imp fun h => by omega))]
  refine List.map_congr_left fun k _ => ?_
  rw [hg, stA_vis, stA_cycN bl sc pa k (lenV pa) h0, show lenV pa - 1 + 1 = lenV pa by omega]
/-! The sums over the list. -/
theorem put_sum (m : Mp) (b v c : Int) : ((putM m b ((getM m b).1 + v, (getM m b).2 + c)).map fun x => x.2.1).sum = (m.map fun x => x.2.1).sum + v ∧ ((putM m b ((getM m b).1 + v, (getM m b).2 + c)).map fun x => x.2.2).sum = (m.map fun x => x.2.2).sum + c := by
  induction m with
  | nil => simp [putM, getM]
  | cons x m ih =>
    by_cases h : b = x.1
    · simp only [putM, getM, h, if_true, List.map_cons, List.sum_cons]
      omega
    · simp only [putM, getM, h, if_false, List.map_cons, List.sum_cons]
      omega
theorem accM_sum (C : Int → Int → Int) (S : List (Int × Nat)) : ((accM C S).map fun x => x.2.1).sum = (S.map fun x => (x.2 : Int)).sum ∧ ((accM C S).map fun x => x.2.2).sum = (S.map fun x => C x.1 x.2).sum := by
  induction S using snocRec with
  | nil => simp [accM]
  | snoc S x ih =>
    rw [accM_snoc]
    have := put_sum (accM C S) x.1 x.2 (C x.1 x.2)
    rw [this.1, this.2, ih.1, ih.2]
    simp
theorem getM_mem {m : Mp} (hnd : (m.map (·.1)).Nodup) : (m.map (·.1)).map (fun k => (k, getM m k)) = m := by
  induction m with
  | nil => rfl
  | cons x m ih =>
    simp only [List.map_cons, List.nodup_cons] at hnd ⊢
    have e : (m.map (·.1)).map (fun k => (k, getM (x :: m) k)) = (m.map (·.1)).map (fun k => (k, getM m k)) := by
      refine List.map_congr_left fun k hk => ?_
      have : ¬ k = x.1 := fun e => hnd.1 (e ▸ hk)
      simp [getM, this]
    rw [e, ih hnd.2]
    simp [getM]
theorem shL_perm {m : Mp} (hnd : (m.map (·.1)).Nodup) : (shL m).Perm m := by
  have := ((List.mergeSort_perm (m.map (·.1)) leZ).map fun k => (k, getM m k))
  rw [getM_mem hnd] at this
  exact this
theorem perm_sum {l r : List Int} (h : l.Perm r) : l.sum = r.sum := by
  induction h with
  | nil => rfl
  | cons x _ ih => simp [ih]
  | swap x y l => simp; omega
  | trans _ _ h1 h2 => exact h1.trans h2
theorem shL_sum (C : Int → Int → Int) (S : List (Int × Nat)) : ((shL (accM C S)).map fun x => x.2.1).sum = (S.map fun x => (x.2 : Int)).sum ∧ ((shL (accM C S)).map fun x => x.2.2).sum = (S.map fun x => C x.1 x.2).sum := by
  have hp := shL_perm (accM_nodup C S)
  have := accM_sum C S
  rw [perm_sum (hp.map fun x => x.2.1), perm_sum (hp.map fun x => x.2.2)]
  exact this
end Go.AM.Ytegibclhopenmaa
