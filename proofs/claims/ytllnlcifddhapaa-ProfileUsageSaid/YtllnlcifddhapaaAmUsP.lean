/- Counting: what fits into slots that no two share. -/
set_option linter.unusedVariables false
set_option linter.unusedSimpArgs false
namespace Go.AM.Us
theorem count_lt (b : Nat) : ∀ n, (List.range n).countP (fun c => decide (c < b)) = min n b
  | 0 => by simp
  | n + 1 => by
    rw [List.range_succ, List.countP_append, count_lt b n]
    by_cases h : n < b
    · simp [h]; omega
    · simp [h]; omega
theorem range_split (n t : Nat) (h : t ≤ n) : List.range n = List.range t ++ (List.range (n - t)).map (· + t) := by
  apply List.ext_getElem?
  intro i
  rw [List.getElem?_append, List.length_range]
  by_cases hi : i < t
  · rw [if_pos hi, List.getElem?_range (by omega), List.getElem?_range hi]
  · rw [if_neg hi, List.getElem?_map]
    by_cases hn : i < n
    · rw [List.getElem?_range hn, List.getElem?_range (by omega)]
      simp; omega
    · rw [List.getElem?_eq_none (by simpa using hn), List.getElem?_eq_none (by simp; omega)]
      rfl
theorem count_run {s b n : Nat} (h : s + b ≤ n) : b ≤ (List.range n).countP (fun c => decide (s ≤ c) && decide (c < s + b)) := by
  rw [range_split n s (by omega), List.countP_append, List.countP_map]
  have : (List.range (n - s)).countP ((fun c => decide (s ≤ c) && decide (c < s + b)) ∘ (· + s)) = (List.range (n - s)).countP (fun c => decide (c < b)) := by
    apply List.countP_congr
    intro x _
    simp
    omega
  rw [this, count_lt]
  omega
theorem count_mod {t b n : Nat} (ht : t < n) (hb : b ≤ n) : b ≤ (List.range n).countP (fun c => decide ((c + t) % n < b)) := by
  rw [range_split n (n - t) (by omega), List.countP_append, List.countP_map]
  have h1 : (List.range (n - (n - t))).countP ((fun c => decide ((c + t) % n < b)) ∘ (· + (n - t))) = (List.range (n - (n - t))).countP (fun c => decide (c < b)) := by
    apply List.countP_congr
    intro x hx
    rw [List.mem_range] at hx
    have : (x + (n - t) + t) % n = x := by
      rw [show x + (n - t) + t = x + n by omega, Nat.add_mod_right, Nat.mod_eq_of_lt (by omega)]
    simp [this]
  have h2 : (List.range (n - t)).countP (fun c => decide ((c + t) % n < b)) = (List.range (n - t)).countP (fun c => decide (c < b - t)) := by
    apply List.countP_congr
    intro x hx
    rw [List.mem_range] at hx
    rw [Nat.mod_eq_of_lt (show x + t < n by omega)]
    simp
    omega
  rw [h1, h2, count_lt, count_lt]
  omega
theorem nodup_lt : ∀ (m : Nat) (l : List Nat), l.Nodup → (∀ x ∈ l, x < m) → l.length ≤ m
  | 0, l, _, h => by
    cases l with
    | nil => simp
    | cons a l => exact absurd (h a (by simp)) (by omega)
  | m + 1, l, hn, h => by
    have h1 := nodup_lt m (l.filter (· != m)) (hn.filter _) (fun x hx => by
      simp only [List.mem_filter, bne_iff_ne, ne_eq] at hx
      have := h x hx.1
      omega)
    have h2 : l.length = (l.filter (· != m)).length + l.count m := by
      rw [List.length_eq_countP_add_countP (· != m) (l := l), List.countP_eq_length_filter]
      congr 1
      rw [List.count_eq_countP]
      apply List.countP_congr
      intro x _
      simp
    have h3 : l.count m ≤ 1 := List.nodup_iff_count.mp hn m
    omega
theorem double {ι : Type} (S : List ι) (occ : ι → Nat → Bool) (R : List Nat) : (S.map fun i => R.countP (occ i)).sum = (R.map fun c => S.countP (occ · c)).sum := by
  induction S with
  | nil => induction R with
    | nil => rfl
    | cons a R ih => simpa using ih
  | cons i S ih =>
    simp only [List.map_cons, List.sum_cons, ih]
    clear ih
    induction R with
    | nil => rfl
    | cons c R ih =>
      simp only [List.map_cons, List.sum_cons, List.countP_cons] at *
      split <;> omega
theorem sum_le {ι : Type} (S : List ι) (f g : ι → Nat) (h : ∀ i ∈ S, f i ≤ g i) : (S.map f).sum ≤ (S.map g).sum := by
  induction S with
  | nil => simp
  | cons i S ih =>
    simp only [List.map_cons, List.sum_cons]
    have h1 := h i (by simp)
    have h2 := ih fun j hj => h j (by simp [hj])
    omega
theorem sum_const (R : List Nat) (m : Nat) : (R.map fun _ => m).sum = R.length * m := by
  induction R with
  | nil => simp
  | cons a R ih => simp only [List.map_cons, List.sum_cons, ih, List.length_cons, Nat.succ_mul]; omega
/-- what is busy fits into the slots of the units, if no two share one -/
theorem pigeon (S : List Nat) (hS : S.Nodup) (busy unit : Nat → Nat) (occ : Nat → Nat → Bool) (m n : Nat) (h1 : ∀ i ∈ S, unit i < m) (h2 : ∀ i ∈ S, busy i ≤ (List.range n).countP (occ i))
    (h3 : ∀ i ∈ S, ∀ k ∈ S, i ≠ k → unit i = unit k → ∀ c, c < n → ¬ (occ i c = true ∧ occ k c = true)) : (S.map busy).sum ≤ m * n := by
  refine Nat.le_trans (sum_le S busy _ h2) ?_
  rw [double]
  have hb : ∀ c ∈ List.range n, S.countP (occ · c) ≤ m := by
    intro c hc
    rw [List.mem_range] at hc
    rw [List.countP_eq_length_filter, ← List.length_map (f := unit)]
    refine nodup_lt m _ ?_ ?_
    · rw [List.Nodup, List.pairwise_map]
      refine (hS.filter _).imp_of_mem ?_
      intro i k hi hk hik he
      simp only [List.mem_filter] at hi hk
      exact h3 i hi.1 k hk.1 hik he c hc ⟨hi.2, hk.2⟩
    · intro x hx
      obtain ⟨i, hi, rfl⟩ := List.mem_map.mp hx
      exact h1 i (List.mem_filter.mp hi).1
  refine Nat.le_trans (sum_le (List.range n) _ (fun _ => m) hb) ?_
  rw [sum_const, List.length_range, Nat.mul_comm]
  exact Nat.le_refl _
end Go.AM.Us
