-- Written by xprint.py for this claim.
import Derived.Test.YtpfkhinbehegbaaXx0
import Derived.Test.YtpfkhinbehegbaaXx11
namespace Go.Proofs.Ytpfkhinbehegbaa.X
open Go.RowKit Go.Proofs.YtpfkhinbehegbaaW.PrintWords Go.Proofs.YtpfkhinbehegbaaW.PrintLast Go.Proofs.YtpfkhinbehegbaaW.PrintMore
attribute [local go_sem] max2_int min2_int max_two min_two max_three min_three max_four min_four   -- for this text's walks alone
set_option linter.unusedVariables false
set_option linter.unusedSimpArgs false

/-! ### diophant_within: function 32 -/
theorem below_trans1 {a : Nat} {w w1 w' : World} {o : Obj} (ha : a ≤ w.heap.size) (h : Below a w w1) (hb : Below (w1.alloc o).heap.size (w1.alloc o) w') : Below a w w' :=
  have hs : a ≤ w1.heap.size := Nat.le_trans ha h.size
  (h.alloc hs _).trans (hb.mono (by simp; omega))
set_option maxHeartbeats 400000 in
set_option maxRecDepth 100000 in
theorem coords (A B C xl xh yl yh sl sh X Y DX DY : Int) (w : World) :
    Calls Try.prog 34 #[.agg #[.int .i64 A, .int .i64 B, .int .i64 C, .int .i64 xl, .int .i64 xh, .int .i64 yl, .int .i64 yh, .int .i64 sl, .int .i64 sh], .agg #[.int .i64 X, .int .i64 Y, .int .i64 DX, .int .i64 DY]] w fun e w' => e = .returned (.agg #[.int .i64 X, .int .i64 DX, .int .i64 xl, .int .i64 xh, .int .i64 Y, .int .i64 DY, .int .i64 yl, .int .i64 yh, .int .i64 (wrap64 (X + Y)), .int .i64 (wrap64 (DX + DY)), .int .i64 sl, .int .i64 sh]) ∧ Below w.heap.size w w' := by
  go_enter Try.func34, Try.ntmps34
  go_wp2
  refine bodyPost_ret (v := .agg #[.int .i64 X, .int .i64 DX, .int .i64 xl, .int .i64 xh, .int .i64 Y, .int .i64 DY, .int .i64 yl, .int .i64 yh, .int .i64 (wrap64 (X + Y)), .int .i64 (wrap64 (DX + DY)), .int .i64 sl, .int .i64 sh]) (by simp [results, Try.results34, go_sem]) rfl ⟨rfl, ?_⟩
  exact (((Below.refl _ _).alloc (Nat.le_refl _) _).alloc (by simp) _).alloc (by simp; omega) _

def within1 (st p : Int × Int × Bool) : Int × Int × Bool := if p.2.2 = true ∧ p.1 > p.2.1 then (st.1, st.2.1, true) else (mx st.1 p.1, mn st.2.1 p.2.1, st.2.2)
theorem within1_t {st : Int × Int × Bool} {l u : Int} {c : Bool} (hc : c = true) (h : u < l) : within1 st (l, u, c) = (st.1, st.2.1, true) := by
  unfold within1; rw [if_pos ⟨hc, h⟩]
theorem within1_n {st : Int × Int × Bool} {l u : Int} {c : Bool} (hc : c = true) (h : l ≤ u) : within1 st (l, u, c) = (if st.1 < l then l else st.1, if u < st.2.1 then u else st.2.1, st.2.2) := by
  unfold within1 mx mn; rw [if_neg (by rintro ⟨_, h2⟩; exact absurd h2 (by show ¬ u < l; omega))]
theorem within1_f {st : Int × Int × Bool} {l u : Int} {c : Bool} (hc : ¬ c = true) : within1 st (l, u, c) = (if st.1 < l then l else st.1, if u < st.2.1 then u else st.2.1, st.2.2) := by
  unfold within1 mx mn; rw [if_neg (by rintro ⟨h1, _⟩; exact hc h1)]
def diophant_within.f (a0_0 a0_1 a0_2 a0_3 a0_4 a0_5 a0_6 a0_7 a0_8 a1_0 a1_1 a1_2 a1_3 : Int) : Option (Int × Int × Bool) :=
  (diophant_coordinate_parameters.f a1_0 a1_2 a0_3 a0_4).bind fun p1 => (diophant_coordinate_parameters.f a1_1 a1_3 a0_5 a0_6).bind fun p2 =>
    (diophant_coordinate_parameters.f (wrap64 (a1_0 + a1_1)) (wrap64 (a1_2 + a1_3)) a0_7 a0_8).bind fun p3 => some (within1 (within1 (within1 (-4611686018427387904, 4611686018427387904, false) p1) p2) p3)
set_option maxHeartbeats 4000000 in
set_option maxRecDepth 100000 in
theorem diophant_within.calls (a0_0 a0_1 a0_2 a0_3 a0_4 a0_5 a0_6 a0_7 a0_8 a1_0 a1_1 a1_2 a1_3 r1 r2 : Int) (r3 : Bool) (w : World) (h : diophant_within.f a0_0 a0_1 a0_2 a0_3 a0_4 a0_5 a0_6 a0_7 a0_8 a1_0 a1_1 a1_2 a1_3 = some (r1, r2, r3)) :
    Calls Try.prog 32 #[.agg #[.int .i64 a0_0, .int .i64 a0_1, .int .i64 a0_2, .int .i64 a0_3, .int .i64 a0_4, .int .i64 a0_5, .int .i64 a0_6, .int .i64 a0_7, .int .i64 a0_8], .agg #[.int .i64 a1_0, .int .i64 a1_1, .int .i64 a1_2, .int .i64 a1_3]] w fun e w' => e = .returned (.tuple #[.int .i64 r1, .int .i64 r2, .bool r3]) ∧ Below w.heap.size w w' := by
  unfold diophant_within.f at h
  obtain ⟨p1, h1, h⟩ := Option.bind_eq_some_iff.mp h
  obtain ⟨p2, h2, h⟩ := Option.bind_eq_some_iff.mp h
  obtain ⟨p3, h3, h⟩ := Option.bind_eq_some_iff.mp h
  obtain ⟨l1, u1, c1⟩ := p1
  obtain ⟨l2, u2, c2⟩ := p2
  obtain ⟨l3, u3, c3⟩ := p3
  have H1 := Aside0.mk h1
  have H2 := Aside0.mk h2
  have H3 := Aside0.mk h3
  have H := Aside0.mk h
  clear h h1 h2 h3
  go_enter Try.func32, Try.ntmps32
  go_wp2_with (go_at_call 34; refine (coords _ _ _ _ _ _ _ _ _ _ _ _ _ _).mono ?_; rintro e w' ⟨rfl, hb⟩; have HB := Aside0.mk hb; clear hb)
  have HW := Aside0.mk (Below.trans (((Below.refl w.heap.size w).alloc (Nat.le_refl _) _).alloc (by simp) _) (HB.out.mono (by simp; omega)))
  clear HB
  obtain ⟨P, hP⟩ : ∃ P : Nat → Int × Int × Bool, P = fun k => if k = 0 then (l1, u1, c1) else if k = 1 then (l2, u2, c2) else (l3, u3, c3) := ⟨_, rfl⟩
  have HP0 : Aside0 (P 0 = (l1, u1, c1)) := ⟨by rw [hP]; rfl⟩
  have HP1 : Aside0 (P 1 = (l2, u2, c2)) := ⟨by rw [hP]; rfl⟩
  have HP2 : Aside0 (P 2 = (l3, u3, c3)) := ⟨by rw [hP]; rfl⟩
  obtain ⟨S, hS⟩ : ∃ S : Nat → Int × Int × Bool, S 0 = (-4611686018427387904, 4611686018427387904, false) ∧ S 3 = (r1, r2, r3) ∧ ∀ k, k < 3 → S (k + 1) = within1 (S k) (P k) := by
    refine ⟨fun k => if k = 0 then (-4611686018427387904, 4611686018427387904, false) else if k = 1 then within1 (-4611686018427387904, 4611686018427387904, false) (l1, u1, c1) else if k = 2 then within1 (within1 (-4611686018427387904, 4611686018427387904, false) (l1, u1, c1)) (l2, u2, c2) else (r1, r2, r3), rfl, rfl, ?_⟩
    intro k hk
    rcases k with _ | _ | _ | k
    · rw [HP0.out]; rfl
    · rw [HP1.out]; rfl
    · rw [HP2.out]; exact (Option.some.inj H.out).symm
    · omega
  have HS := Aside0.mk hS
  clear hS hP H
  have i0 : ∀ w, (Instr.index 59 (.agg #[.int .i64 a1_0, .int .i64 a1_2, .int .i64 a0_3, .int .i64 a0_4, .int .i64 a1_1, .int .i64 a1_3, .int .i64 a0_5, .int .i64 a0_6, .int .i64 (wrap64 (a1_0 + a1_1)), .int .i64 (wrap64 (a1_2 + a1_3)), .int .i64 a0_7, .int .i64 a0_8]) (.int .i64 0)).run Try.prog w = .ok (.agg #[.int .i64 a1_0, .int .i64 a1_2, .int .i64 a0_3, .int .i64 a0_4]) w := fun _ => by kernel_rfl
  have i1 : ∀ w, (Instr.index 59 (.agg #[.int .i64 a1_0, .int .i64 a1_2, .int .i64 a0_3, .int .i64 a0_4, .int .i64 a1_1, .int .i64 a1_3, .int .i64 a0_5, .int .i64 a0_6, .int .i64 (wrap64 (a1_0 + a1_1)), .int .i64 (wrap64 (a1_2 + a1_3)), .int .i64 a0_7, .int .i64 a0_8]) (.int .i64 1)).run Try.prog w = .ok (.agg #[.int .i64 a1_1, .int .i64 a1_3, .int .i64 a0_5, .int .i64 a0_6]) w := fun _ => by kernel_rfl
  have i2 : ∀ w, (Instr.index 59 (.agg #[.int .i64 a1_0, .int .i64 a1_2, .int .i64 a0_3, .int .i64 a0_4, .int .i64 a1_1, .int .i64 a1_3, .int .i64 a0_5, .int .i64 a0_6, .int .i64 (wrap64 (a1_0 + a1_1)), .int .i64 (wrap64 (a1_2 + a1_3)), .int .i64 a0_7, .int .i64 a0_8]) (.int .i64 2)).run Try.prog w = .ok (.agg #[.int .i64 (wrap64 (a1_0 + a1_1)), .int .i64 (wrap64 (a1_2 + a1_3)), .int .i64 a0_7, .int .i64 a0_8]) w := fun _ => by kernel_rfl
  go_loopw [4, 5, 6, 15] (fun a b c i wr => ∃ k : Nat, k ≤ 3 ∧ i = .int .i64 k ∧ a = .int .i64 (S k).1 ∧ b = .int .i64 (S k).2.1 ∧ c = .bool (S k).2.2 ∧ Below w.heap.size w wr) (fun _ _ _ i _ => 3 - (intOf i).toNat)
  case atStart => exact ⟨0, by omega, rfl, by rw [HS.out.1], by rw [HS.out.1], by rw [HS.out.1], HW.out⟩
  case round =>
    obtain ⟨k, hk, rfl, rfl, rfl, rfl, hb⟩ := hrel
    have HB := Aside0.mk hb
    clear hb HW
    rcases k with _ | _ | _ | k
    · go_wp2_with (go_at_call 38; refine (diophant_coordinate_parameters.calls _ _ _ _ _ _ _ _ H1.out).mono ?_; rintro e w' ⟨rfl, hb'⟩; have HB' := Aside0.mk hb'; clear hb')
      all_goals
        go_roundw
        case rel =>
          refine ⟨1, by omega, rfl, ?_, ?_, ?_, ?_⟩
          · rw [HS.out.2.2 0 (by omega), HP0.out]; first | rw [within1_t (by assumption) (by assumption)] | rw [within1_n (by assumption) (by assumption)] | rw [within1_f (by assumption)]
          · rw [HS.out.2.2 0 (by omega), HP0.out]; first | rw [within1_t (by assumption) (by assumption)] | rw [within1_n (by assumption) (by assumption)] | rw [within1_f (by assumption)]
          · rw [HS.out.2.2 0 (by omega), HP0.out]; first | rw [within1_t (by assumption) (by assumption)] | rw [within1_n (by assumption) (by assumption)] | rw [within1_f (by assumption)]
          · exact below_trans1 (Nat.le_refl _) HB.out HB'.out
        case measure => simp [intOf]
    · go_wp2_with (go_at_call 38; refine (diophant_coordinate_parameters.calls _ _ _ _ _ _ _ _ H2.out).mono ?_; rintro e w' ⟨rfl, hb'⟩; have HB' := Aside0.mk hb'; clear hb')
      all_goals
        go_roundw
        case rel =>
          refine ⟨2, by omega, rfl, ?_, ?_, ?_, ?_⟩
          · rw [HS.out.2.2 1 (by omega), HP1.out]; first | rw [within1_t (by assumption) (by assumption)] | rw [within1_n (by assumption) (by assumption)] | rw [within1_f (by assumption)]
          · rw [HS.out.2.2 1 (by omega), HP1.out]; first | rw [within1_t (by assumption) (by assumption)] | rw [within1_n (by assumption) (by assumption)] | rw [within1_f (by assumption)]
          · rw [HS.out.2.2 1 (by omega), HP1.out]; first | rw [within1_t (by assumption) (by assumption)] | rw [within1_n (by assumption) (by assumption)] | rw [within1_f (by assumption)]
          · exact below_trans1 (Nat.le_refl _) HB.out HB'.out
        case measure => simp [intOf]
    · go_wp2_with (go_at_call 38; refine (diophant_coordinate_parameters.calls _ _ _ _ _ _ _ _ H3.out).mono ?_; rintro e w' ⟨rfl, hb'⟩; have HB' := Aside0.mk hb'; clear hb')
      all_goals
        go_roundw
        case rel =>
          refine ⟨3, by omega, rfl, ?_, ?_, ?_, ?_⟩
          · rw [HS.out.2.2 2 (by omega), HP2.out]; first | rw [within1_t (by assumption) (by assumption)] | rw [within1_n (by assumption) (by assumption)] | rw [within1_f (by assumption)]
          · rw [HS.out.2.2 2 (by omega), HP2.out]; first | rw [within1_t (by assumption) (by assumption)] | rw [within1_n (by assumption) (by assumption)] | rw [within1_f (by assumption)]
          · rw [HS.out.2.2 2 (by omega), HP2.out]; first | rw [within1_t (by assumption) (by assumption)] | rw [within1_n (by assumption) (by assumption)] | rw [within1_f (by assumption)]
          · exact below_trans1 (Nat.le_refl _) HB.out HB'.out
        case measure => simp [intOf]
    · obtain rfl : k = 0 := by omega
      go_wp2
      go_ret3
      exact ⟨by simp [HS.out.2.1], HB.out⟩

end Go.Proofs.Ytpfkhinbehegbaa.X
