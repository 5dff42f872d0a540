/- Contracts: the saturated product, a copy of a list of limits. -/
import Derived.Test.YtcfijihoepkgeaaChoA
set_option linter.unusedVariables false
set_option linter.unusedSimpArgs false
namespace Go.AM.Ytcfijihoepkgeaa
open Go Go.AM
set_option maxRecDepth 100000
set_option maxHeartbeats 0
theorem imin_le {a b : Int} : imin a b ≤ a ∧ imin a b ≤ b := by unfold imin; split <;> omega
theorem sat_step {p a : Int} (hp : 0 ≤ p) (ha : 0 ≤ a) : stepL 257 (imin p 257) a = imin (p * a) 257 := by
  have hx : ∀ x : Int, 0 ≤ x → 0 ≤ imin x 257 ∧ imin x 257 ≤ 257 := fun x h => by unfold imin; split <;> omega
  obtain ⟨x0, x1⟩ := hx p hp
  obtain ⟨y0, y1⟩ := hx a ha
  have hm0 : 0 ≤ imin p 257 * imin a 257 := Int.mul_nonneg x0 y0
  have hm1 : imin p 257 * imin a 257 ≤ 257 * 257 := Int.mul_le_mul x1 y1 y0 (by omega)
  unfold stepL
  rw [wrap64 (by omega) (by omega)]
  by_cases h1 : 257 < p
  · have e1 : imin p 257 = 257 := by unfold imin; rw [if_pos h1]
    rw [e1]
    by_cases h2 : a = 0
    · subst h2; simp [imin]
    · have e2 : 1 ≤ imin a 257 := by unfold imin; split <;> omega
      have e3 : p * 1 ≤ p * a := Int.mul_le_mul_of_nonneg_left (by omega) hp
      have e4 : 257 < p * a := by omega
      have : imin (p * a) 257 = 257 := by unfold imin; rw [if_pos e4]
      rw [this]
      unfold imin at e2 ⊢
      split <;> split at e2 <;> omega
  · have e1 : imin p 257 = p := by unfold imin; rw [if_neg h1]
    rw [e1]
    by_cases h2 : 257 < a
    · have e2 : imin a 257 = 257 := by unfold imin; rw [if_pos h2]
      rw [e2]
      by_cases h3 : p = 0
      · subst h3; simp
      · have e3 : 1 * a ≤ p * a := Int.mul_le_mul_of_nonneg_right (by omega) ha
        have : imin (p * a) 257 = 257 := by unfold imin; rw [if_pos (by omega)]
        rw [this]
        unfold imin
        split <;> omega
    · have e2 : imin a 257 = a := by unfold imin; rw [if_neg h2]
      rw [e2]
theorem sat5 (a0 a1 a2 a3 a4 : Nat) : stepL 257 (stepL 257 (stepL 257 (stepL 257 (stepL 257 1 a0) a1) a2) a3) a4 = imin ((a0 * a1 * a2 * a3 * a4 : Nat) : Int) 257 := by
  have h1 : (1 : Int) = imin ((1 : Nat) : Int) 257 := rfl
  have st : ∀ p a : Nat, stepL 257 (imin (p : Int) 257) a = imin ((p * a : Nat) : Int) 257 := fun p a => by
    rw [sat_step (by omega) (by omega)]; push_cast; rfl
  rw [h1, st, st, st, st, st, Nat.one_mul]
theorem p40 : pu 40 = true := by decide
theorem d40n (k : Nat) : callF tbl pu (k + 1) 40 [.nils] [] = some (.nils, [], false) := by
  rw [callF_eq tbl40, Ytcfijihoepkgeaa.c40]
  simp [isnilV]
theorem d40 (k : Nat) (es : List (List V)) (h1 : ∀ e ∈ es, ∃ a b, e = [.int .i64 a, .int .i64 b]) (h2 : es.length * 16 ≤ 140737488351232) : ∃ d, callF tbl pu (k + 1) 40 [.tsl 2 es] [] = some (.sl 2 0 es.length 0 es.length, [{ z := 2, es := es, fz := 0, box := false, flat := true }], d) := by
  have hf : es.all (fun e => e.all V.flat) = true := by
    rw [List.all_eq_true]
    intro e he
    obtain ⟨a, b, rfl⟩ := h1 e he
    simp
  cases es with
  | nil =>
    refine ⟨false, ?_⟩
    rw [callF_eq tbl40, Ytcfijihoepkgeaa.c40]
    simp [isnilV, appV, elemsOf, roomB]
  | cons e es =>
    refine ⟨true, ?_⟩
    have hr : roomB (es.length + 1) 16 = true := by simp only [roomB, Bool.and_eq_true, decide_eq_true_eq]; simp only [List.length_cons] at h2; omega
    have ha : appV [{ z := 2, es := [], fz := 0, box := false, flat := true }] 52 2 16 (V.sl 2 0 0 0 0) (V.tsl 2 (e :: es)) = some (.sl 2 0 (e :: es).length 0 (e :: es).length, .upd [{ z := 2, es := e :: es, fz := 0, box := false, flat := true }] [0]) := by
      simp only [List.all_cons, Bool.and_eq_true] at hf
      simp [appV, elemsOf, hr, hf]
    rw [callF_eq tbl40, Ytcfijihoepkgeaa.c40]
    simp [isnilV, ha]
end Go.AM.Ytcfijihoepkgeaa
