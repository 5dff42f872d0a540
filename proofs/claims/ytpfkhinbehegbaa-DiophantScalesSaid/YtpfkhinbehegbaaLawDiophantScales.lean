/- The row of the law DiophantScales. Written by row.py for this claim. -/
import Derived.Test.YtpfkhinbehegbaaRows
import Derived.Test.YtpfkhinbehegbaaSayDiophantScales
import Derived.Test.YtpfkhinbehegbaaPureDiophantScales
import Derived.WalkKit
import Derived.ProofKit
import Derived.OpenShut
import Derived.ShutString
import Derived.ChangeOld
import Derived.Below
import Derived.SizedLaws
import Derived.Carry
namespace Go.Proofs.Ytpfkhinbehegbaa.diophantScales
open Go.ChangeShapes Go.WideShapes Go.ChangeAt Go.RowKit Go.Proofs.YtpfkhinbehegbaaW.PrintWords Go.Proofs.YtpfkhinbehegbaaW.Op Go.Proofs.Ytpfkhinbehegbaa.Ty Go.Proofs.Ytpfkhinbehegbaa.X
open Go.ChangeMaps (open_string shut_string)
set_option linter.unusedVariables false
theorem own : ownKnob Try.prog.godebug = none := by kernel_rfl
theorem laidOut : laidOutB Try.prog = true := by kernel_rfl
set_option maxRecDepth 100000 in
theorem lifted (os : Os) (started : os.Started) (H : Type) (enc : TypeId × Value → H) :
    ReturnsInHanded {} Try.checked os 5 .any (Rows.diophantScalesSpec.pre6 enc Try.prog Try.f5 Rows.diophantScalesRow.domain false) (Rows.diophantScalesSpec.post enc Try.prog Try.f5 false true false false) := by
  refine returnsInHanded_of_change_sized (C := Try.checked) own started (by kernel_rfl) Try.func5
    (ChangeSpec.witness6 (enc := enc) (C := Try.checked) false ⟨#[], #[.agg #[.int .i64 0, .int .i64 0, .int .i64 0, .int .i64 0, .int .i64 0, .int .i64 0, .int .i64 0, .int .i64 0, .int .i64 0], .int .i8 0], []⟩ 8 (by kernel_rfl) (by kernel_rfl) (by kernel_rfl) (by kernel_rfl)) ?_
  intro W base args ds gs before hval0 hW hcnd hsz0 _
  have hsz : (DataW.weightsEach Try.prog (Try.f5.params.toList ++ Rows.diophantScalesSpec.plain.varTypes Try.prog) (ds ++ gs)).all (· ≤ reachBytes) = true := hsz0
  have hval : ∀ (j : Nat) t v, Try.f5.params[j]? = some t → args[j]? = some v → Value.okWide Try.prog W .any base t v := hval0
  have hW' := hW
  obtain ⟨p, q, hA0, hV, rfl, hfz, hnd⟩ := hW
  have hA : DataW.TrodAll enc Try.prog W 0 (fun _ => true) true Try.f5.params.toList args.toList ds p := hA0
  rw [Try.params5] at hA hval hsz
  obtain ⟨v0, vs0, d0, ds0, p0, q0, hargs, rfl, rfl, h0, r0⟩ := trodAll_cons hA
  obtain ⟨v1, vs1, d1, ds1, p1, q1, rfl, rfl, rfl, h1, r1⟩ := trodAll_cons r0
  obtain ⟨rfl, rfl, rfl⟩ := trodAll_nil r1
  obtain rfl : args = #[v0, v1] := by cases args; simp_all
  obtain ⟨rfl, rfl⟩ := trodVars_none hV
  have k0 := h0
  have lt0 : ∀ x ∈ p0, x.block < W.heap.size := by obtain ⟨m, hm⟩ := k0; exact DataW.trod_lt m _ _ _ hm
  obtain ⟨cs0, rfl, hn0⟩ := okWide_struct Try.underlying31 (hval 0 31 v0 rfl rfl)
  obtain ⟨x0, hK0, hV0⟩ := Opens.arg top31 h0 hsz (j := 0) rfl rfl
  obtain e0 := leaves31 hK0
  obtain rfl : cs0 = #[.int .i64 x0.1, .int .i64 x0.2.1, .int .i64 x0.2.2.1, .int .i64 x0.2.2.2.1.1, .int .i64 x0.2.2.2.1.2, .int .i64 x0.2.2.2.2.1.1, .int .i64 x0.2.2.2.2.1.2, .int .i64 x0.2.2.2.2.2.1, .int .i64 x0.2.2.2.2.2.2] := Array.toList_inj.1 e0
  obtain ⟨a1, rfl, rfl, rfl, w1⟩ := open_int Try.underlying39 (hval 1 39 v1 rfl rfl) h1
  clear hA0 hval0 hsz0 hsz
  obtain ⟨k, hk⟩ := Pure.DiophantScales x0.1 x0.2.1 x0.2.2.1 x0.2.2.2.1.1 x0.2.2.2.1.2 x0.2.2.2.2.1.1 x0.2.2.2.2.1.2 x0.2.2.2.2.2.1 x0.2.2.2.2.2.2 a1 hV0.1 hV0.2.1 hV0.2.2.1 hV0.2.2.2.1.1 hV0.2.2.2.1.2 hV0.2.2.2.2.1.1 hV0.2.2.2.2.1.2 hV0.2.2.2.2.2.1 hV0.2.2.2.2.2.2 w1
  refine (jacquardlaw24_DiophantScales.calls k x0.1 x0.2.1 x0.2.2.1 x0.2.2.2.1.1 x0.2.2.2.1.2 x0.2.2.2.2.1.1 x0.2.2.2.2.1.2 x0.2.2.2.2.2.1 x0.2.2.2.2.2.2 a1 true W  hk).mono fun e W' ⟨he, bel0⟩ => ?_
  have bel : Below W.heap.size W W' := bel0
  subst he
  exact ⟨_, rfl, _, _, _, [], _, [], hW', trodAll_mk1 (shut_bool Try.underlying4 _), (trodAll_cons_mk (Below.trod laidOut (by kernel_rfl) (of_decide_eq_true (by kernel_rfl)) k0 bel lt0) (trodAll_cons_mk (shut_int Try.underlying39 w1) trodAll_mk0)), rfl, bel.frame _, fun h => by cases h⟩
theorem over : Rows.diophantScalesRow.holds Try.pinned (OpenSpec.ofChange Rows.diophantScalesSpec) :=
  OpenClaim.holds_of_wide 5 Try.f5 rfl rfl rfl rfl rfl rfl rfl ⟨rfl, rfl, rfl, rfl, rfl⟩ rfl rfl rfl rfl rfl (by kernel_rfl) Try.func5 (by kernel_rfl)
    (of_decide_eq_true (by kernel_rfl)) (by unfold Func.isWrapper; first | (rw [if_pos (by decide +kernel)]; kernel_rfl) | (rw [if_neg (by decide +kernel)]; exact ⟨rfl, rfl⟩))
    (fun os started H enc _ => lifted os started H enc)
theorem proved : Rows.DiophantScalesSaid := over
#print axioms proved
end Go.Proofs.Ytpfkhinbehegbaa.diophantScales
namespace Go.Proofs.Ytpfkhinbehegbaa
/-- The row, under a short name, for the claim. -/
theorem diophantScales_holds : Rows.DiophantScalesSaid := diophantScales.proved
end Go.Proofs.Ytpfkhinbehegbaa
