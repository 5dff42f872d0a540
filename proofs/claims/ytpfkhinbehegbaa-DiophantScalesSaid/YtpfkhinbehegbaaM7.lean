/- Plain mathematics for layer 24: Refuse, Count, and the reference that tries all pairs. -/
import Derived.Test.YtpfkhinbehegbaaM6
import Derived.Test.YtpfkhinbehegbaaXx23
import Derived.Test.YtpfkhinbehegbaaXx25
import Derived.Test.YtpfkhinbehegbaaXx27
import Derived.Test.YtpfkhinbehegbaaXx33
import Derived.Test.YtpfkhinbehegbaaXx38
set_option linter.unusedVariables false
namespace Go.Proofs.Ytpfkhinbehegbaa.X
open Go.RowKit Go.Proofs.YtpfkhinbehegbaaW.PrintWords Go.Proofs.YtpfkhinbehegbaaW.PrintLast Go.Proofs.YtpfkhinbehegbaaW.PrintMore

/-- the first kind that applies -/
def firstKind (A B C xl xh yl yh sl sh : Int) : Int :=
  if Void xl xh yl yh sl sh then 1 else if A = 0 ∧ B = 0 then 2 else if Int.tmod C (Int.gcd A B) ≠ 0 then 3 else 4

theorem refuse_f {A B C xl xh yl yh sl sh : Int} {k : Nat} (hk : 2147483680 ≤ k) (hv : V A B C xl xh yl yh sl sh) :
    ((∃ x y, Sol A B C xl xh yl yh sl sh x y) ∧ diophant_Refuse.f k A B C xl xh yl yh sl sh = some (0, 0, false)) ∨
    ((∀ x y, ¬ Sol A B C xl xh yl yh sl sh x y) ∧ ∃ T, diophant_Refuse.f k A B C xl xh yl yh sl sh = some (firstKind A B C xl xh yl yh sl sh, T, true) ∧ (firstKind A B C xl xh yl yh sl sh ≠ 4 → T = 0) ∧ Good A B C xl xh yl yh sl sh (firstKind A B C xl xh yl yh sl sh) T) := by
  obtain ⟨k, rfl⟩ : ∃ m, k = m + 1 := ⟨k - 1, by omega⟩
  unfold diophant_Refuse.f
  rw [valid_f (by omega), Option.bind_some, if_pos (by simpa using hv)]
  rcases solve_f (k := k + 1) (by omega) hv with ⟨x, y, hs, hl⟩ | ⟨hs, hn⟩
  · rw [hs, Option.bind_some]
    dsimp only
    rw [if_pos rfl]
    exact .inl ⟨⟨x, y, hl.1⟩, rfl⟩
  · right
    refine ⟨hn, ?_⟩
    rw [hs, Option.bind_some]
    dsimp only
    rw [if_neg (by simp)]
    unfold firstKind
    have hall : ∃ l : Int × Int × Int × Int × Bool, diophant_All.f (k + 1) A B C xl xh yl yh sl sh = some l ∧
        ((l.2.2.2.2 = false ∧ (A = 0 ∧ B = 0 ∨ ¬ (A = 0 ∧ B = 0) ∧ Int.tmod C (Int.gcd A B) ≠ 0)) ∨ (l.2.2.2.2 = true ∧ ¬ (A = 0 ∧ B = 0) ∧ Int.tmod C (Int.gcd A B) = 0 ∧ Line A B C l.1 l.2.1 l.2.2.1 l.2.2.2.1 ∧ diophant_All.f 2147483660 A B C xl xh yl yh sl sh = some (l.1, l.2.1, l.2.2.1, l.2.2.2.1, true))) := by
      by_cases h0 : A = 0 ∧ B = 0
      · exact ⟨_, all_none (by omega) (.inr h0), .inl ⟨rfl, .inl h0⟩⟩
      · rcases all_f (k := 2147483660) (by omega) hv h0 with ⟨hm, ha⟩ | ⟨hm, X, Y, DX, DY, ha, L⟩
        · exact ⟨_, all_more (by omega) ha, .inl ⟨rfl, .inr ⟨h0, hm⟩⟩⟩
        · exact ⟨_, all_more (by omega) ha, .inr ⟨rfl, h0, hm, L, ha⟩⟩
    obtain ⟨⟨X, Y, DX, DY, ok⟩, ha, hok⟩ := hall
    rw [ha, Option.bind_some, void_f hv, Option.bind_some]
    dsimp only at *
    by_cases hvd : Void xl xh yl yh sl sh
    · rw [if_pos (by simpa using hvd), if_pos hvd]
      exact ⟨0, rfl, fun _ => rfl, .inl ⟨rfl, hvd⟩⟩
    · rw [if_neg (by simpa using hvd), if_neg hvd]
      have hj : (if A = 0 then diophant_Refuse.j0 (k + 1) ok (B == 0) A B C xl xh yl yh sl sh X Y DX DY else diophant_Refuse.j0 (k + 1) ok false A B C xl xh yl yh sl sh X Y DX DY) = diophant_Refuse.j0 (k + 1) ok (decide (A = 0 ∧ B = 0)) A B C xl xh yl yh sl sh X Y DX DY := by
        by_cases a : A = 0
        · rw [if_pos a]; congr 1; by_cases b : B = 0 <;> simp [a, b]
        · rw [if_neg a]; congr 1; simp [a]
      rw [hj]
      simp only [diophant_Refuse.j0]
      by_cases h0 : A = 0 ∧ B = 0
      · rw [if_pos (by simpa using h0), if_pos h0]
        refine ⟨0, rfl, fun _ => rfl, .inr (.inl ⟨rfl, h0.1, h0.2, fun hC => ?_⟩)⟩
        unfold Void at hvd
        refine hn (max xl (sl - (max yl (sl - xh)))) (max yl (sl - xh)) ⟨by omega, by omega, by omega, by omega, by omega, by omega, ?_⟩
        rw [h0.1, h0.2, hC]; omega
      · rw [if_neg (by simpa using h0), if_neg h0]
        rcases hok with ⟨rfl, h⟩ | ⟨rfl, _, hm, L, ha0⟩
        · rcases h with h | ⟨_, hm⟩
          · exact absurd h h0
          · rw [if_neg (by simp), if_pos hm]
            exact ⟨0, rfl, fun _ => rfl, .inr (.inr (.inl ⟨rfl, h0, hm⟩))⟩
        · rw [if_pos rfl, if_neg (by simp [hm])]
          obtain ⟨lo, hi, c, hw, I⟩ := within_f hv L
          rw [hw, Option.bind_some]
          dsimp only
          have hnz := I.nz trivial
          have hlow := I.low
          cases c with
          | true =>
            rw [if_pos rfl]
            refine ⟨1 - 1, rfl, fun h => absurd rfl h, .inr (.inr (.inr ⟨rfl, by omega, by omega, X, Y, DX, DY, h0, hm, ha0, ?_, ?_⟩))⟩
            · exact (I.no rfl _).2.1
            · exact (I.no rfl _).2.2
          | false =>
            rw [if_neg (by simp), w64 (by omega) (by omega)]
            have hlh : hi < lo := by
              rcases Int.lt_or_le hi lo with h | h
              · exact h
              · exfalso
                exact hn _ _ ((sol_line hv L).2 ⟨lo, hlow.1, hlow.2, (I.yes rfl lo hlow.1 hlow.2).2 ⟨Int.le_refl _, h⟩, rfl, rfl⟩)
            refine ⟨lo - 1, rfl, fun h => absurd rfl h, .inr (.inr (.inr ⟨rfl, by omega, by omega, X, Y, DX, DY, h0, hm, ha0, ?_, ?_⟩))⟩
            · rcases I.left with h | h
              · omega
              · exact h _ (by omega)
            · rcases I.right with h | h
              · omega
              · exact h _ (by omega)

theorem refuse_bad {A B C xl xh yl yh sl sh : Int} {k : Nat} (hk : 2147483680 ≤ k) (hv : ¬ V A B C xl xh yl yh sl sh) : diophant_Refuse.f k A B C xl xh yl yh sl sh = some (0, 0, false) := by
  unfold diophant_Refuse.f
  rw [valid_f (by omega), Option.bind_some, if_neg (by simpa using hv)]
theorem solve_bad {A B C xl xh yl yh sl sh : Int} {k : Nat} (hk : 2147483680 ≤ k) (hv : ¬ V A B C xl xh yl yh sl sh) : diophant_Solve.f k A B C xl xh yl yh sl sh = some (0, 0, false) := by
  obtain ⟨k, rfl⟩ : ∃ m, k = m + 1 := ⟨k - 1, by omega⟩
  unfold diophant_Solve.f
  rw [valid_f (by omega), Option.bind_some, if_neg (by simpa using hv)]
  simp [diophant_Solve.j0]
theorem check_bad {A B C xl xh yl yh sl sh kind T : Int} {k : Nat} (hk : 2147483680 ≤ k) (hv : ¬ V A B C xl xh yl yh sl sh) : diophant_Check.f k A B C xl xh yl yh sl sh kind T = some false := by
  unfold diophant_Check.f
  rw [valid_f (by omega), Option.bind_some, if_neg (by simpa using hv)]

/-- a list of all solutions, each once -/
def Lists (A B C xl xh yl yh sl sh : Int) (l : List (Int × Int)) : Prop := l.Nodup ∧ ∀ p, p ∈ l ↔ Sol A B C xl xh yl yh sl sh p.1 p.2

theorem length_le_of {α : Type} [DecidableEq α] : ∀ {l m : List α}, l.Nodup → (∀ x ∈ l, x ∈ m) → l.length ≤ m.length
  | [], m, _, _ => Nat.zero_le _
  | a :: l, m, hn, hs => by
    have ha := hs a List.mem_cons_self
    have hn' := List.nodup_cons.1 hn
    have := length_le_of (l := l) (m := m.erase a) hn'.2 (fun x hx => by
      have hxa : x ≠ a := fun h => hn'.1 (h ▸ hx)
      exact (List.mem_erase_of_ne hxa).2 (hs x (List.mem_cons_of_mem _ hx)))
    rw [List.length_erase_of_mem ha] at this
    have hp : 0 < m.length := List.length_pos_of_mem ha
    simp only [List.length_cons]
    omega
theorem lists_same {A B C xl xh yl yh sl sh : Int} {l m : List (Int × Int)} (hl : Lists A B C xl xh yl yh sl sh l) (hm : Lists A B C xl xh yl yh sl sh m) : l.length = m.length :=
  Nat.le_antisymm (length_le_of hl.1 (fun x hx => (hm.2 x).2 ((hl.2 x).1 hx))) (length_le_of hm.1 (fun x hx => (hl.2 x).2 ((hm.2 x).1 hx)))

theorem nodup_map {α β : Type} {f : α → β} : ∀ {l : List α}, (∀ x ∈ l, ∀ y ∈ l, f x = f y → x = y) → l.Nodup → (l.map f).Nodup
  | [], _, _ => by simp
  | a :: l, hf, hn => by
    have hn' := List.nodup_cons.1 hn
    rw [List.map_cons, List.nodup_cons]
    refine ⟨fun h => ?_, nodup_map (fun x hx y hy => hf x (List.mem_cons_of_mem _ hx) y (List.mem_cons_of_mem _ hy)) hn'.2⟩
    obtain ⟨b, hb, he⟩ := List.mem_map.1 h
    have := hf b (List.mem_cons_of_mem _ hb) a List.mem_cons_self he
    exact hn'.1 (this ▸ hb)

theorem count_f {A B C xl xh yl yh sl sh : Int} {k : Nat} (hk : 2147483680 ≤ k) (hv : V A B C xl xh yl yh sl sh) :
    ∃ n, diophant_Count.f k A B C xl xh yl yh sl sh = some n ∧ ((∀ x y, ¬ Sol A B C xl xh yl yh sl sh x y) → n = 0) ∧ ((∃ x y, Sol A B C xl xh yl yh sl sh x y) → A = 0 ∧ B = 0 → n = 1) ∧
      (¬ (A = 0 ∧ B = 0) → ∃ l, Lists A B C xl xh yl yh sl sh l ∧ n = l.length) ∧ ((∃ x y, Sol A B C xl xh yl yh sl sh x y) → 0 < n) := by
  obtain ⟨k, rfl⟩ : ∃ m, k = m + 1 := ⟨k - 1, by omega⟩
  unfold diophant_Count.f
  rcases solve_f (k := k + 1) (by omega) hv with ⟨x, y, hs, hl⟩ | ⟨hs, hn⟩
  · rw [hs, Option.bind_some]
    dsimp only
    rw [if_pos rfl]
    have hj : (if A = 0 then diophant_Count.j0 (k + 1) (B == 0) A B C xl xh yl yh sl sh else diophant_Count.j0 (k + 1) false A B C xl xh yl yh sl sh) = diophant_Count.j0 (k + 1) (decide (A = 0 ∧ B = 0)) A B C xl xh yl yh sl sh := by
      by_cases a : A = 0
      · rw [if_pos a]; congr 1; by_cases b : B = 0 <;> simp [a, b]
      · rw [if_neg a]; congr 1; simp [a]
    rw [hj]
    simp only [diophant_Count.j0]
    by_cases h0 : A = 0 ∧ B = 0
    · rw [if_pos (by simpa using h0)]
      exact ⟨1, rfl, fun h => absurd hl.1 (h x y), fun _ _ => rfl, fun h => absurd h0 h, fun _ => by omega⟩
    · rw [if_neg (by simpa using h0)]
      rcases all_f (k := k) (by omega) hv h0 with ⟨hm, ha⟩ | ⟨hm, X, Y, DX, DY, ha, L⟩
      · exact absurd (tmod_dvd hl.1.2.2.2.2.2.2) hm
      · rw [ha, Option.bind_some]
        dsimp only
        obtain ⟨lo, hi, c, hw, I⟩ := within_f hv L
        rw [hw, Option.bind_some]
        dsimp only
        have hnz := I.nz trivial
        have hlow := I.low
        have hhigh := I.high
        obtain ⟨t, t0, t1, hin, _, _⟩ := (sol_line hv L).1 hl.1
        have hcf : c = false := by
          cases c with
          | true => exact absurd hin (I.no rfl t).1
          | false => rfl
        have hin' := (I.yes hcf t t0 t1).1 hin
        rw [w64 (by omega) (by omega), u64_id (n := hi - lo) (by omega) (by omega), u64_id (by omega) (by omega)]
        refine ⟨_, rfl, fun h => absurd hl.1 (h x y), fun _ h => absurd h h0, fun _ => ?_, fun _ => by omega⟩
        refine ⟨(List.range (hi - lo + 1).toNat).map fun (i : Nat) => (X + (lo + i) * DX, Y + (lo + i) * DY), ⟨?_, ?_⟩, by simp; omega⟩
        · refine nodup_map (fun i _ j _ he => ?_) List.nodup_range
          injection he with e1 e2
          rcases line_nz L with h | h
          · have := Int.eq_of_mul_eq_mul_right h (show (lo + (i : Int)) * DX = (lo + (j : Int)) * DX by omega)
            omega
          · have := Int.eq_of_mul_eq_mul_right h (show (lo + (i : Int)) * DY = (lo + (j : Int)) * DY by omega)
            omega
        · rintro ⟨x', y'⟩
          rw [sol_line hv L, List.mem_map]
          constructor
          · rintro ⟨i, hi', he⟩
            injection he with e1 e2
            rw [List.mem_range] at hi'
            exact ⟨lo + i, by omega, by omega, (I.yes hcf _ (by omega) (by omega)).2 ⟨by omega, by omega⟩, e1.symm, e2.symm⟩
          · rintro ⟨s, s0, s1, hs', e1, e2⟩
            have := (I.yes hcf s s0 s1).1 hs'
            refine ⟨(s - lo).toNat, List.mem_range.2 (by omega), ?_⟩
            dsimp only at e1 e2
            rw [e1, e2, show lo + (((s - lo).toNat : Nat) : Int) = s by omega]
  · rw [hs, Option.bind_some]
    dsimp only
    rw [if_neg (by simp)]
    refine ⟨0, rfl, fun _ => rfl, fun ⟨x, y, h⟩ => absurd h (hn x y), fun _ => ⟨[], ⟨List.nodup_nil, fun p => ⟨fun h => by simp at h, fun h => absurd h (hn _ _)⟩⟩, rfl⟩, fun ⟨x, y, h⟩ => absurd h (hn x y)⟩

/-! the reference -/
theorem few_f {A B C xl xh yl yh sl sh : Int} : jacquardref24_Few.f A B C xl xh yl yh sl sh 60 = some (decide (V A B C xl xh yl yh sl sh ∧ xh - xl < 60 ∧ yh - yl < 60)) := by
  unfold jacquardref24_Few.f
  rw [rvalid_f, Option.bind_some]
  by_cases hv : V A B C xl xh yl yh sl sh
  · rw [if_pos (by simpa using hv)]
    have hv' := hv
    obtain ⟨hA, hB, h1, h2, h3, h4, h5, h6, h7, h8⟩ := hv'
    unfold C31 at *
    rw [w64 (by omega) (by omega), w64 (by omega) (by omega)]
    by_cases h : xh - xl < 60
    · rw [if_pos h]; simp [hv, h]
    · rw [if_neg h]; simp [h]
  · rw [if_neg (by simpa using hv)]; simp [hv]
theorem rempty_f {A B C xl xh yl yh sl sh : Int} (hv : V A B C xl xh yl yh sl sh) : jacquardref24_Empty.f A B C xl xh yl yh sl sh = some (decide (Void xl xh yl yh sl sh)) := by
  rw [← void_f hv]
  rfl

theorem r24hold_iff {A B C sl sh x y : Int} : r24hold A B C sl sh x y = true ↔ A * x + B * y = C ∧ sl ≤ x + y ∧ x + y ≤ sh := by
  simp [r24hold, and_assoc]
theorem mem_r24row {A B C xl sl sh y : Int} {n : Nat} {p : Int × Int} : p ∈ r24row A B C xl sl sh n y ↔ p.2 = y ∧ xl ≤ p.1 ∧ p.1 < xl + n ∧ A * p.1 + B * p.2 = C ∧ sl ≤ p.1 + p.2 ∧ p.1 + p.2 ≤ sh := by
  obtain ⟨a, b⟩ := p
  unfold r24row
  rw [List.mem_filter, r24hold_iff, List.mem_map]
  constructor
  · rintro ⟨⟨i, hi, he⟩, h⟩
    injection he with e1 e2
    subst e1 e2
    rw [List.mem_range] at hi
    exact ⟨rfl, by omega, by omega, h⟩
  · rintro ⟨e, h1, h2, h⟩
    dsimp only at *
    subst e
    exact ⟨⟨(a - xl).toNat, List.mem_range.2 (by omega), by rw [show xl + (((a - xl).toNat : Nat) : Int) = a by omega]⟩, h⟩
theorem mem_r24all {A B C xl yl sl sh : Int} {nx ny : Nat} {p : Int × Int} : p ∈ r24all A B C xl yl sl sh nx ny ↔ yl ≤ p.2 ∧ p.2 < yl + ny ∧ xl ≤ p.1 ∧ p.1 < xl + nx ∧ A * p.1 + B * p.2 = C ∧ sl ≤ p.1 + p.2 ∧ p.1 + p.2 ≤ sh := by
  unfold r24all
  rw [List.mem_flatMap]
  constructor
  · rintro ⟨j, hj, h⟩
    rw [List.mem_range] at hj
    obtain ⟨e, h1, h2, h3⟩ := mem_r24row.1 h
    exact ⟨by omega, by omega, h1, h2, h3⟩
  · rintro ⟨h1, h2, h3⟩
    refine ⟨(p.2 - yl).toNat, List.mem_range.2 (by omega), mem_r24row.2 ⟨by omega, h3⟩⟩
theorem r24all_sol {A B C xl xh yl yh sl sh : Int} {p : Int × Int} : p ∈ r24all A B C xl yl sl sh (xh + 1 - xl).toNat (yh + 1 - yl).toNat ↔ Sol A B C xl xh yl yh sl sh p.1 p.2 := by
  rw [mem_r24all]; unfold Sol; omega
/-- before: less y, or the same y and less x -/
def Before (p q : Int × Int) : Prop := p.2 < q.2 ∨ (p.2 = q.2 ∧ p.1 < q.1)
theorem r24row_sorted (A B C xl sl sh y : Int) (n : Nat) : (r24row A B C xl sl sh n y).Pairwise Before := by
  unfold r24row
  refine List.Pairwise.filter _ ?_
  rw [List.pairwise_map]
  exact List.pairwise_lt_range.imp (fun h => .inr ⟨rfl, by dsimp only; omega⟩)
theorem r24all_sorted (A B C xl yl sl sh : Int) (nx : Nat) : ∀ ny, (r24all A B C xl yl sl sh nx ny).Pairwise Before
  | 0 => by simp [r24all]
  | ny + 1 => by
    rw [r24all_succ, List.pairwise_append]
    refine ⟨r24all_sorted A B C xl yl sl sh nx ny, r24row_sorted .., fun p hp q hq => .inl ?_⟩
    have h1 := mem_r24all.1 hp
    have h2 := mem_r24row.1 hq
    omega
theorem r24all_lists {A B C xl xh yl yh sl sh : Int} : Lists A B C xl xh yl yh sl sh (r24all A B C xl yl sl sh (xh + 1 - xl).toNat (yh + 1 - yl).toNat) := by
  refine ⟨?_, fun p => r24all_sol⟩
  refine (r24all_sorted A B C xl yl sl sh _ _).imp ?_
  rintro p q h rfl
  rcases h with h | h <;> omega
/-- the reference's answer -/
theorem rsolve_f {A B C xl xh yl yh sl sh : Int} (hv : V A B C xl xh yl yh sl sh) (hx : xh - xl < 60) (hy : yh - yl < 60) :
    ∃ u v n, jacquardref24_Solve.f A B C xl xh yl yh sl sh = some (u, v, n) ∧ ((n = 0 ∧ u = 0 ∧ v = 0 ∧ ∀ x y, ¬ Sol A B C xl xh yl yh sl sh x y) ∨
      (0 < n ∧ Least A B C xl xh yl yh sl sh u v ∧ (A = 0 ∧ B = 0 → n = 1) ∧ (¬ (A = 0 ∧ B = 0) → ∃ l, Lists A B C xl xh yl yh sl sh l ∧ n = l.length))) := by
  unfold jacquardref24_Solve.f
  have hb : r24bound A B C xl xh yl yh sl sh = true := by
    unfold V C31 at hv
    simp only [r24bound, Bool.and_eq_true, decide_eq_true_eq]
    omega
  rw [if_pos hb]
  refine ⟨_, _, _, rfl, ?_⟩
  have hL := r24all_lists (A := A) (B := B) (C := C) (xl := xl) (xh := xh) (yl := yl) (yh := yh) (sl := sl) (sh := sh)
  have hS := r24all_sorted A B C xl yl sl sh (xh + 1 - xl).toNat (yh + 1 - yl).toNat
  generalize r24all A B C xl yl sl sh (xh + 1 - xl).toNat (yh + 1 - yl).toNat = l at *
  cases l with
  | nil =>
    left
    refine ⟨by split <;> simp only [List.length_nil] <;> omega, rfl, rfl, fun x y h => ?_⟩
    have := (hL.2 (x, y)).2 h
    simp at this
  | cons p l =>
    right
    refine ⟨by split <;> simp <;> omega, ?_, fun h => ?_, fun h => ⟨_, hL, by rw [if_neg h]⟩⟩
    · show Least A B C xl xh yl yh sl sh p.1 p.2
      refine ⟨(hL.2 p).1 List.mem_cons_self, fun x' y' h => ?_⟩
      have hm := (hL.2 (x', y')).2 h
      rcases List.mem_cons.1 hm with e | hm
      · subst e; right; exact ⟨rfl, Int.le_refl _⟩
      · have := (List.pairwise_cons.1 hS).1 _ hm
        unfold Before at this
        dsimp only at this
        omega
    · rw [if_pos h]; simp; omega
theorem least_one {A B C xl xh yl yh sl sh x y u v : Int} (h1 : Least A B C xl xh yl yh sl sh x y) (h2 : Least A B C xl xh yl yh sl sh u v) : x = u ∧ y = v := by
  have a := h1.2 u v h2.1
  have b := h2.2 x y h1.1
  omega
end Go.Proofs.Ytpfkhinbehegbaa.X
