-- Written by xprint.py for this claim.
import Derived.Test.YtpfkhinbehegbaaXx0
import Derived.Test.YtpfkhinbehegbaaXx26
namespace Go.Proofs.Ytpfkhinbehegbaa.X
open Go.RowKit Go.Proofs.YtpfkhinbehegbaaW.PrintWords Go.Proofs.YtpfkhinbehegbaaW.PrintLast Go.Proofs.YtpfkhinbehegbaaW.PrintMore
attribute [local go_sem] max2_int min2_int max_two min_two max_three min_three max_four min_four   -- for this text's walks alone
set_option linter.unusedVariables false
set_option linter.unusedSimpArgs false

/-! ### jacquardref24_Solve: function 21 -/
def r24hold (A B C sl sh x y : Int) : Bool := decide (A * x + B * y = C) && decide (sl ≤ x + y) && decide (x + y ≤ sh)
def r24row (A B C xl sl sh : Int) (i : Nat) (y : Int) : List (Int × Int) := ((List.range i).map fun (n : Nat) => (xl + (n : Int), y)).filter fun p => r24hold A B C sl sh p.1 p.2
def r24all (A B C xl yl sl sh : Int) (nx j : Nat) : List (Int × Int) := (List.range j).flatMap fun (n : Nat) => r24row A B C xl sl sh nx (yl + (n : Int))
def r24first (l : List (Int × Int)) : Int × Int := l.head?.getD (0, 0)
def r24bound (A B C xl xh yl yh sl sh : Int) : Bool :=
  decide (-2147483648 ≤ A ∧ A ≤ 2147483648) && decide (-2147483648 ≤ B ∧ B ≤ 2147483648) && decide (-2305843009213693952 ≤ C ∧ C ≤ 2305843009213693952) &&
  decide (-2147483648 ≤ xl ∧ xl ≤ 2147483648) && decide (-2147483648 ≤ xh ∧ xh ≤ 2147483648) && decide (-2147483648 ≤ yl ∧ yl ≤ 2147483648) && decide (-2147483648 ≤ yh ∧ yh ≤ 2147483648) &&
  decide (-2147483648 ≤ sl ∧ sl ≤ 2147483648) && decide (-2147483648 ≤ sh ∧ sh ≤ 2147483648) && decide (xh - xl < 60) && decide (yh - yl < 60)
def jacquardref24_Solve.f (a0_0 a0_1 a0_2 a0_3 a0_4 a0_5 a0_6 a0_7 a0_8 : Int) : Option (Int × Int × Int) :=
  if r24bound a0_0 a0_1 a0_2 a0_3 a0_4 a0_5 a0_6 a0_7 a0_8 = true then
    let l := r24all a0_0 a0_1 a0_2 a0_3 a0_5 a0_7 a0_8 (a0_4 + 1 - a0_3).toNat (a0_6 + 1 - a0_5).toNat
    some ((r24first l).1, (r24first l).2, if a0_0 = 0 ∧ a0_1 = 0 then min (l.length : Int) 1 else (l.length : Int))
  else none

theorem r24row_succ (A B C xl sl sh : Int) (i : Nat) (y : Int) : r24row A B C xl sl sh (i + 1) y = r24row A B C xl sl sh i y ++ (if r24hold A B C sl sh (xl + (i : Int)) y = true then [(xl + (i : Int), y)] else []) := by
  unfold r24row
  rw [List.range_succ, List.map_append, List.filter_append]
  congr 1
  by_cases h : r24hold A B C sl sh (xl + (i : Int)) y = true <;> simp [h]
theorem r24all_succ (A B C xl yl sl sh : Int) (nx j : Nat) : r24all A B C xl yl sl sh nx (j + 1) = r24all A B C xl yl sl sh nx j ++ r24row A B C xl sl sh nx (yl + (j : Int)) := by
  unfold r24all
  rw [List.range_succ, List.flatMap_append]
  simp
theorem r24row_le (A B C xl sl sh : Int) (i : Nat) (y : Int) : (r24row A B C xl sl sh i y).length ≤ i := by
  unfold r24row
  refine Nat.le_trans (List.length_filter_le _ _) ?_
  simp
theorem r24all_le (A B C xl yl sl sh : Int) (nx : Nat) : ∀ j : Nat, (r24all A B C xl yl sl sh nx j).length ≤ j * nx
  | 0 => by simp [r24all]
  | j + 1 => by
    rw [r24all_succ, List.length_append, Nat.add_mul]
    have := r24all_le A B C xl yl sl sh nx j
    have := r24row_le A B C xl sl sh nx (yl + (j : Int))
    omega
theorem r24first_snoc (l : List (Int × Int)) (p : Int × Int) : r24first (l ++ [p]) = if l.length = 0 then p else r24first l := by
  cases l <;> simp [r24first]
theorem r24mul {a b : Int} (ha : -2147483648 ≤ a ∧ a ≤ 2147483648) (hb : -2147483708 ≤ b ∧ b ≤ 2147483708) : (a * b).natAbs ≤ 4611686147276242944 + 1000000000 := by
  rw [Int.natAbs_mul]
  exact Nat.le_trans (Nat.mul_le_mul (show a.natAbs ≤ 2147483648 by omega) (show b.natAbs ≤ 2147483708 by omega)) (by decide)

theorem r24holds_f {A B C xl xh yl yh sl sh x y : Int} (hA : -2147483648 ≤ A ∧ A ≤ 2147483648) (hB : -2147483648 ≤ B ∧ B ≤ 2147483648) (hC : -2305843009213693952 ≤ C ∧ C ≤ 2305843009213693952)
    (hx : -2147483708 ≤ x ∧ x ≤ 2147483648) (hy : -2147483708 ≤ y ∧ y ≤ 2147483648) : jacquardref24_Holds.f A B C xl xh yl yh sl sh x y = some (r24hold A B C sl sh x y) := by
  have h1 := r24mul hA (b := x) (by omega)
  have h2 := r24mul hB (b := y) (by omega)
  unfold jacquardref24_Holds.f r24hold
  rw [show wrap64 (A * x) = A * x by unfold wrap64; omega, show wrap64 (B * y) = B * y by unfold wrap64; omega, show wrap64 (x + y) = x + y by unfold wrap64; omega]
  by_cases h : A * x + B * y = C
  · rw [if_pos (by rw [h]; unfold wrap64; omega)]
    by_cases h3 : x + y ≥ sl
    · rw [if_pos h3]; simp [h, h3]
    · rw [if_neg h3]; simp [h]; omega
  · rw [if_neg (by unfold wrap64; omega)]; simp [h]
theorem r24ret {a b c c' : Int} (h : c = c') : Ending.returned (.tuple #[.int .i64 a, .int .i64 b, .int .u64 c]) = Ending.returned (.tuple #[.int .i64 a, .int .i64 b, .int .u64 c']) := by rw [h]
set_option maxHeartbeats 4000000 in
set_option maxRecDepth 100000 in
theorem jacquardref24_Solve.calls (a0_0 a0_1 a0_2 a0_3 a0_4 a0_5 a0_6 a0_7 a0_8 r1 r2 r3 : Int) (w : World) (h : jacquardref24_Solve.f a0_0 a0_1 a0_2 a0_3 a0_4 a0_5 a0_6 a0_7 a0_8 = some (r1, r2, r3)) :
    Calls Try.prog 21 #[.agg #[.int .i64 a0_0, .int .i64 a0_1, .int .i64 a0_2, .int .i64 a0_3, .int .i64 a0_4, .int .i64 a0_5, .int .i64 a0_6, .int .i64 a0_7, .int .i64 a0_8]] w fun e w' => e = .returned (.tuple #[.int .i64 r1, .int .i64 r2, .int .u64 r3]) ∧ Below w.heap.size w w' := by
  unfold jacquardref24_Solve.f at h
  split at h
  case isFalse => cases h
  rename_i hbd
  have HBD := Aside0.mk hbd
  have H := Aside0.mk h
  clear h hbd
  go_enter Try.func21, Try.ntmps21
  go_wp2
  have hB := HBD.out
  simp only [r24bound, Bool.and_eq_true, decide_eq_true_eq] at hB
  obtain ⟨⟨⟨⟨⟨⟨⟨⟨⟨⟨⟨bA1, bA2⟩, bB1, bB2⟩, bC1, bC2⟩, b31, b32⟩, b41, b42⟩, b51, b52⟩, b61, b62⟩, b71, b72⟩, b81, b82⟩, bx⟩, by'⟩ := hB
  have HE0 := Aside0.mk (show (((w.alloc (.cells #[.int .i64 a0_0, .int .i64 a0_1, .int .i64 a0_2, .int .i64 a0_3, .int .i64 a0_4, .int .i64 a0_5, .int .i64 a0_6, .int .i64 a0_7, .int .i64 a0_8] 31)).alloc (.cells #[.int .i64 0, .int .i64 0] 56)).heap[w.heap.size]? = some (.cells #[.int .i64 a0_0, .int .i64 a0_1, .int .i64 a0_2, .int .i64 a0_3, .int .i64 a0_4, .int .i64 a0_5, .int .i64 a0_6, .int .i64 a0_7, .int .i64 a0_8] 31 (0, 0))) from blk_alloc (blk_new w _) _)
  have HF0 := Aside0.mk (show (((w.alloc (.cells #[.int .i64 a0_0, .int .i64 a0_1, .int .i64 a0_2, .int .i64 a0_3, .int .i64 a0_4, .int .i64 a0_5, .int .i64 a0_6, .int .i64 a0_7, .int .i64 a0_8] 31)).alloc (.cells #[.int .i64 0, .int .i64 0] 56)).heap[w.heap.size + 1]? = some (.cells #[.int .i64 0, .int .i64 0] 56 (0, 0))) from by have := blk_new (w.alloc (.cells #[.int .i64 a0_0, .int .i64 a0_1, .int .i64 a0_2, .int .i64 a0_3, .int .i64 a0_4, .int .i64 a0_5, .int .i64 a0_6, .int .i64 a0_7, .int .i64 a0_8] 31)) (.cells #[.int .i64 0, .int .i64 0] 56); simpa using this)
  have HW0 := Aside0.mk (below_alloc (below_alloc (Below.refl w.heap.size w) (.cells #[.int .i64 a0_0, .int .i64 a0_1, .int .i64 a0_2, .int .i64 a0_3, .int .i64 a0_4, .int .i64 a0_5, .int .i64 a0_6, .int .i64 a0_7, .int .i64 a0_8] 31)) (.cells #[.int .i64 0, .int .i64 0] 56))
  generalize ((w.alloc (.cells #[.int .i64 a0_0, .int .i64 a0_1, .int .i64 a0_2, .int .i64 a0_3, .int .i64 a0_4, .int .i64 a0_5, .int .i64 a0_6, .int .i64 a0_7, .int .i64 a0_8] 31)).alloc (.cells #[.int .i64 0, .int .i64 0] 56)) = w0 at *
  go_loopw [5, 7] (fun n v wr => ∃ (y : Int) (L : List (Int × Int)), v = .int .i64 y ∧ n = .int .u64 (L.length : Int) ∧ Aside0 (a0_5 ≤ y ∧ (y ≤ a0_6 + 1 ∨ y = a0_5)) ∧ Aside0 (L = r24all a0_0 a0_1 a0_2 a0_3 a0_5 a0_7 a0_8 (a0_4 + 1 - a0_3).toNat (y - a0_5).toNat) ∧ Aside0 (wr.heap[w.heap.size]? = some (.cells #[.int .i64 a0_0, .int .i64 a0_1, .int .i64 a0_2, .int .i64 a0_3, .int .i64 a0_4, .int .i64 a0_5, .int .i64 a0_6, .int .i64 a0_7, .int .i64 a0_8] 31 (0, 0))) ∧ Aside0 (wr.heap[w.heap.size + 1]? = some (.cells #[.int .i64 (r24first L).1, .int .i64 (r24first L).2] 56 (0, 0))) ∧ Aside0 (Below w.heap.size w wr)) (fun _ v _ => (a0_6 + 1 - intOf v).toNat)
  case atStart => exact ⟨a0_5, [], rfl, rfl, ⟨by omega⟩, ⟨by simp [r24all]⟩, HE0, HF0, HW0⟩
  case round =>
    obtain ⟨y, L, rfl, rfl, HY, HL, HE, HF, HW⟩ := hrel
    clear HE0 HF0 HW0
    have y0 := HY.out.1
    have hnx : (a0_4 + 1 - a0_3).toNat ≤ 60 := by omega
    have hny : (y - a0_5).toNat ≤ 60 := by have := HY.out.2; omega
    have hLl : L.length ≤ 3600 := by rw [HL.out]; exact Nat.le_trans (r24all_le _ _ _ _ _ _ _ _ _) (Nat.mul_le_mul hny hnx)
    have e0 : wr.cell? ⟨w.heap.size, 0, none⟩ = some (.int .i64 a0_0) := blk_cell HE.out 0
    have e1 : wr.cell? ⟨w.heap.size, 1, none⟩ = some (.int .i64 a0_1) := blk_cell HE.out 1
    have e2 : wr.cell? ⟨w.heap.size, 2, none⟩ = some (.int .i64 a0_2) := blk_cell HE.out 2
    have e3 : wr.cell? ⟨w.heap.size, 3, none⟩ = some (.int .i64 a0_3) := blk_cell HE.out 3
    have e4 : wr.cell? ⟨w.heap.size, 4, none⟩ = some (.int .i64 a0_4) := blk_cell HE.out 4
    have e5 : wr.cell? ⟨w.heap.size, 5, none⟩ = some (.int .i64 a0_5) := blk_cell HE.out 5
    have e6 : wr.cell? ⟨w.heap.size, 6, none⟩ = some (.int .i64 a0_6) := blk_cell HE.out 6
    have e7 : wr.cell? ⟨w.heap.size, 7, none⟩ = some (.int .i64 a0_7) := blk_cell HE.out 7
    have e8 : wr.cell? ⟨w.heap.size, 8, none⟩ = some (.int .i64 a0_8) := blk_cell HE.out 8
    by_cases hy : y ≤ a0_6
    · have y1 : y ≤ 2147483648 := by omega
      go_wp2_with fail
      obtain ⟨wo, rfl⟩ : ∃ wo : World, wo = wr := ⟨_, rfl⟩
      go_loopw [5, 8] (fun n v wi => ∃ (x : Int) (M : List (Int × Int)), v = .int .i64 x ∧ n = .int .u64 (M.length : Int) ∧ Aside0 (a0_3 ≤ x ∧ (x ≤ a0_4 + 1 ∨ x = a0_3)) ∧ Aside0 (M = L ++ r24row a0_0 a0_1 a0_2 a0_3 a0_7 a0_8 (x - a0_3).toNat y) ∧ Aside0 (wi.heap[w.heap.size]? = some (.cells #[.int .i64 a0_0, .int .i64 a0_1, .int .i64 a0_2, .int .i64 a0_3, .int .i64 a0_4, .int .i64 a0_5, .int .i64 a0_6, .int .i64 a0_7, .int .i64 a0_8] 31 (0, 0))) ∧ Aside0 (wi.heap[w.heap.size + 1]? = some (.cells #[.int .i64 (r24first M).1, .int .i64 (r24first M).2] 56 (0, 0))) ∧ Aside0 (Below w.heap.size w wi)) (fun _ v _ => (a0_4 + 1 - intOf v).toNat)
      case atStart => exact ⟨a0_3, L, rfl, rfl, ⟨by omega⟩, ⟨by simp [r24row]⟩, HE, HF, HW⟩
      case round =>
        obtain ⟨x, M, rfl, rfl, HX, HM, HE2, HF2, HW2⟩ := hrel
        clear e0 e1 e2 e3 e4 e5 e6 e7 e8
        have x0 := HX.out.1
        have hMl : M.length ≤ 3660 := by
          rw [HM.out, List.length_append]
          have := r24row_le a0_0 a0_1 a0_2 a0_3 a0_7 a0_8 (x - a0_3).toNat y
          have h60 : (x - a0_3).toNat ≤ 60 := by have := HX.out.2; omega
          omega
        have e0 : wr.cell? ⟨w.heap.size, 0, none⟩ = some (.int .i64 a0_0) := blk_cell HE2.out 0
        have e1 : wr.cell? ⟨w.heap.size, 1, none⟩ = some (.int .i64 a0_1) := blk_cell HE2.out 1
        have e2 : wr.cell? ⟨w.heap.size, 2, none⟩ = some (.int .i64 a0_2) := blk_cell HE2.out 2
        have e3 : wr.cell? ⟨w.heap.size, 3, none⟩ = some (.int .i64 a0_3) := blk_cell HE2.out 3
        have e4 : wr.cell? ⟨w.heap.size, 4, none⟩ = some (.int .i64 a0_4) := blk_cell HE2.out 4
        have e5 : wr.cell? ⟨w.heap.size, 5, none⟩ = some (.int .i64 a0_5) := blk_cell HE2.out 5
        have e6 : wr.cell? ⟨w.heap.size, 6, none⟩ = some (.int .i64 a0_6) := blk_cell HE2.out 6
        have e7 : wr.cell? ⟨w.heap.size, 7, none⟩ = some (.int .i64 a0_7) := blk_cell HE2.out 7
        have e8 : wr.cell? ⟨w.heap.size, 8, none⟩ = some (.int .i64 a0_8) := blk_cell HE2.out 8
        by_cases hx : x ≤ a0_4
        · have x1 : x ≤ 2147483648 := by omega
          have HH := Aside0.mk (r24holds_f (xl := a0_3) (xh := a0_4) (yl := a0_5) (yh := a0_6) (sl := a0_7) (sh := a0_8) ⟨bA1, bA2⟩ ⟨bB1, bB2⟩ ⟨bC1, bC2⟩ (x := x) (y := y) (by omega) (by omega))
          have hxs : (x + 1 - a0_3).toNat = (x - a0_3).toNat + 1 := by omega
          have hxe : a0_3 + ((x - a0_3).toNat : Int) = x := by omega
          have HR := Aside0.mk (r24row_succ a0_0 a0_1 a0_2 a0_3 a0_7 a0_8 (x - a0_3).toNat y)
          rw [hxe, ← hxs] at HR
          clear hxs hxe
          cases hh : r24hold a0_0 a0_1 a0_2 a0_7 a0_8 x y with
          | false =>
            rw [hh] at HH HR
            have HR' := Aside0.mk (show r24row a0_0 a0_1 a0_2 a0_3 a0_7 a0_8 (x + 1 - a0_3).toNat y = r24row a0_0 a0_1 a0_2 a0_3 a0_7 a0_8 (x - a0_3).toNat y by rw [HR.out]; simp)
            clear hh HR
            go_wp2_with (go_at_call 27; refine (jacquardref24_Holds.calls _ _ _ _ _ _ _ _ _ _ _ _ _ HH.out).mono ?_; rintro e w' ⟨rfl, hb⟩; have HB := Aside0.mk hb; clear hb)
            go_roundw
            case rel => exact ⟨x + 1, M, rfl, rfl, ⟨by omega⟩, ⟨by rw [HR'.out]; exact HM.out⟩, ⟨blk_below HE2.out HB.out⟩, ⟨blk_below HF2.out HB.out⟩, ⟨below_then HW2.out HW2.out.size HB.out⟩⟩
            case measure => simp [intOf]; omega
          | true =>
            rw [hh] at HH HR
            have HR' := Aside0.mk (show M ++ [(x, y)] = L ++ r24row a0_0 a0_1 a0_2 a0_3 a0_7 a0_8 (x + 1 - a0_3).toNat y by rw [HR.out, HM.out]; simp)
            clear hh HR
            cases M with
            | nil =>
              have hl0 : ((([] : List (Int × Int)).length : Int) == 0) = true := rfl
              have HF3 : Aside0 (wr.heap[w.heap.size + 1]? = some (.cells #[.int .i64 0, .int .i64 0] 56 (0, 0))) := HF2
              go_wp2_with (go_at_call 27; refine (jacquardref24_Holds.calls _ _ _ _ _ _ _ _ _ _ _ _ _ HH.out).mono ?_; rintro e w' ⟨rfl, hb⟩; have HB := Aside0.mk hb; clear hb; have HF4 := Aside0.mk (blk_below HF3.out HB.out); have c0 : w'.cell? ⟨w.heap.size + 1, 0, none⟩ = some (.int .i64 0) := blk_cell HF4.out 0; have c1 : w'.cell? ⟨w.heap.size + 1, 1, none⟩ = some (.int .i64 0) := blk_cell HF4.out 1; have z0 := blk_frozen HF4.out 0; have z1 := blk_frozen HF4.out 1)
              go_roundw
              case rel =>
                refine ⟨x + 1, [(x, y)], rfl, rfl, ⟨by omega⟩, HR', ⟨?_⟩, ⟨?_⟩, ⟨?_⟩⟩
                · exact blk_far (blk_far (blk_below HE2.out HB.out) (by simp) _) (by simp) _
                · exact blk_put (blk_put HF4.out 0 (.int .i64 x) rfl) 1 (.int .i64 y) rfl
                · exact below_set (below_set (below_then HW2.out HW2.out.size HB.out) (by omega)) (by omega)
              case measure => simp [intOf]; omega
            | cons m M =>
              have hl0 : (((m :: M).length : Int) == 0) = false := beq_eq_false_iff_ne.2 (by simp only [List.length_cons]; omega)
              have HN := Aside0.mk (show (m :: M).length ≠ 0 by simp)
              generalize hMe : m :: M = M' at *
              clear hMe
              go_wp2_with (go_at_call 27; refine (jacquardref24_Holds.calls _ _ _ _ _ _ _ _ _ _ _ _ _ HH.out).mono ?_; rintro e w' ⟨rfl, hb⟩; have HB := Aside0.mk hb; clear hb)
              go_roundw
              case rel => exact ⟨x + 1, M' ++ [(x, y)], rfl, by rw [List.length_append]; rfl, ⟨by omega⟩, HR', ⟨blk_below HE2.out HB.out⟩, ⟨by rw [r24first_snoc, if_neg HN.out]; exact blk_below HF2.out HB.out⟩, ⟨below_then HW2.out HW2.out.size HB.out⟩⟩
              case measure => simp [intOf]; omega
        · have hxe : (x - a0_3).toNat = (a0_4 + 1 - a0_3).toNat := by have := HX.out; omega
          rw [hxe] at HM
          clear hxe
          go_wp2
          go_roundw
          case rel =>
            refine ⟨y + 1, M, rfl, rfl, ⟨by omega⟩, ⟨?_⟩, HE2, HF2, HW2⟩
            rw [HM.out, HL.out, show (y + 1 - a0_5).toNat = (y - a0_5).toNat + 1 by omega, r24all_succ, show a0_5 + ((y - a0_5).toNat : Int) = y by omega]
          case measure => simp [intOf]; omega
    · have hye : (y - a0_5).toNat = (a0_6 + 1 - a0_5).toNat := by have := HY.out; omega
      rw [hye] at HL
      clear hye
      have c0 : wr.cell? ⟨w.heap.size + 1, 0, none⟩ = some (.int .i64 (r24first L).1) := blk_cell HF.out 0
      have c1 : wr.cell? ⟨w.heap.size + 1, 1, none⟩ = some (.int .i64 (r24first L).2) := blk_cell HF.out 1
      have HH := H.out
      rw [← HL.out] at HH
      simp only [Option.some.injEq, Prod.mk.injEq] at HH
      have H2 := Aside0.mk HH
      clear HH H HL HBD HE HF HY
      go_wp2_with fail
      all_goals
        go_quiet (fail)
        go_wp2_with fail
        go_ret3
        refine ⟨?_, pw_below_drewN HW.out _⟩
        obtain ⟨q1, q2, q3⟩ := H2.out
        subst q1 q2 q3
        refine r24ret ?_
        first
          | (rw [if_pos ⟨by assumption, beq_iff_eq.1 (by assumption)⟩]; omega)
          | (rw [if_neg (by rintro ⟨_, hB0⟩; have := beq_eq_false_iff_ne.1 (by assumption : (a0_1 == 0) = false); exact this hB0)])
          | (rw [if_neg (by rintro ⟨hA0, _⟩; exact absurd hA0 (by assumption))])

end Go.Proofs.Ytpfkhinbehegbaa.X
