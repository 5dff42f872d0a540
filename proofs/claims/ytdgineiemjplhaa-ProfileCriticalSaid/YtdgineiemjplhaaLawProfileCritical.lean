/- The law ProfileCritical returns true whatever its arguments; they read behind the call as they read before. Written by amrow.py for this claim. -/
import Derived.Test.YtdgineiemjplhaaRows
import Derived.Test.YtdgineiemjplhaaSayProfileCritical
import Derived.Test.YtdgineiemjplhaaPureProfileCritical
import Derived.Test.YtdgineiemjplhaaAmLay
import Derived.WalkKit
import Derived.ProofKit
import Derived.OpenShut
import Derived.ShutString
import Derived.ChangeOld
import Derived.Below
import Derived.SizedLaws
import Derived.Carry
namespace Go.Proofs.Ytdgineiemjplhaa.profileCritical
open Go.ChangeShapes Go.WideShapes Go.ChangeAt Go.RowKit
open Go.AM (RelL Rho.none Fw Reads.arg law_calls)
set_option linter.unusedVariables false
theorem own : ownKnob Try.prog.godebug = none := by kernel_rfl
theorem laidOut : laidOutB Try.prog = true := by kernel_rfl
set_option maxRecDepth 100000 in
theorem lifted (os : Os) (started : os.Started) (H : Type) (enc : TypeId × Value → H) :
    ReturnsInHanded {} Try.checked os 3 .any (Rows.profileCriticalSpec.pre6 enc Try.prog Try.f3 Rows.profileCriticalRow.domain false) (Rows.profileCriticalSpec.post enc Try.prog Try.f3 false true false false) := by
  refine returnsInHanded_of_change_sized (C := Try.checked) own started (by kernel_rfl) Try.func3
    (ChangeSpec.witness6 (enc := enc) (C := Try.checked) false ⟨#[], #[.agg #[.int .i64 0, .int .i64 0, .bool false, .slice none 0 0, .slice none 0 0, .slice none 0 0], .agg #[.int .i64 0, .int .i64 0, .slice none 0 0, .int .i64 0]], []⟩ 8 (by kernel_rfl) (by kernel_rfl) (by kernel_rfl) (by kernel_rfl)) ?_
  intro W base args ds gs before hval0 hW hcnd hsz0 _
  have hsz : (DataW.weightsEach Try.prog (Try.f3.params.toList ++ Rows.profileCriticalSpec.plain.varTypes Try.prog) (ds ++ gs)).all (· ≤ reachBytes) = true := hsz0
  have hval : ∀ (j : Nat) t v, Try.f3.params[j]? = some t → args[j]? = some v → Value.okWide Try.prog W .any base t v := hval0
  have hW' := hW
  obtain ⟨p, q, hA0, hV, rfl, hfz, hnd⟩ := hW
  have hA : DataW.TrodAll enc Try.prog W 0 (fun _ => true) true Try.f3.params.toList args.toList ds p := hA0
  rw [Try.params3] at hA hval hsz
  obtain ⟨v0, vs0, d0, ds0, p0, q0, hargs, rfl, rfl, h0, r0⟩ := trodAll_cons hA
  obtain ⟨v1, vs1, d1, ds1, p1, q1, rfl, rfl, rfl, h1, r1⟩ := trodAll_cons r0
  obtain ⟨rfl, rfl, rfl⟩ := trodAll_nil r1
  obtain rfl : args = #[v0, v1] := by cases args; simp_all
  obtain ⟨rfl, rfl⟩ := trodVars_none hV
  obtain ⟨x0, k0, a0⟩ := Reads.arg Go.AM.Ytdgineiemjplhaa.r26 (hval 0 26 v0 rfl rfl) h0 hsz (j := 0) rfl rfl
  have lt0 : ∀ x ∈ p0, x.block < W.heap.size := by obtain ⟨m, hm⟩ := h0; exact DataW.trod_lt m _ _ _ hm
  obtain ⟨x1, k1, a1⟩ := Reads.arg Go.AM.Ytdgineiemjplhaa.r29 (hval 1 29 v1 rfl rfl) h1 hsz (j := 1) rfl rfl
  have lt1 : ∀ x ∈ p1, x.block < W.heap.size := by obtain ⟨m, hm⟩ := h1; exact DataW.trod_lt m _ _ _ hm
  clear hA0 hval0 hsz0 hsz
  refine (law_calls Go.AM.Ytdgineiemjplhaa.tbl_ok Go.AM.Ytdgineiemjplhaa.ora_ok Go.AM.Ytdgineiemjplhaa.mixed (f := 3) (Go.AM.Ytdgineiemjplhaa.PureProfileCritical x0 x1 a0 a1) (RelL.cons k0 (RelL.cons k1 RelL.nil))).mono fun e W' ⟨he, bel⟩ => ?_
  subst he
  exact ⟨_, rfl, _, _, _, [], _, [], hW', trodAll_mk1 (shut_bool Try.underlying4 _), (trodAll_cons_mk (Below.trod laidOut (by kernel_rfl) (of_decide_eq_true (by kernel_rfl)) h0 bel lt0) (trodAll_cons_mk (Below.trod laidOut (by kernel_rfl) (of_decide_eq_true (by kernel_rfl)) h1 bel lt1) trodAll_mk0)), rfl, bel.frame _, fun h => by cases h⟩
theorem over : Rows.profileCriticalRow.holds Try.pinned (OpenSpec.ofChange Rows.profileCriticalSpec) :=
  OpenClaim.holds_of_wide 3 Try.f3 rfl rfl rfl rfl rfl rfl rfl ⟨rfl, rfl, rfl, rfl, rfl⟩ rfl rfl rfl rfl rfl (by kernel_rfl) Try.func3 (by kernel_rfl)
    (of_decide_eq_true (by kernel_rfl)) (by unfold Func.isWrapper; first | (rw [if_pos (by decide +kernel)]; kernel_rfl) | (rw [if_neg (by decide +kernel)]; exact ⟨rfl, rfl⟩))
    (fun os started H enc _ => lifted os started H enc)
theorem proved : Rows.ProfileCriticalSaid := over
#print axioms proved
end Go.Proofs.Ytdgineiemjplhaa.profileCritical
namespace Go.Proofs.Ytdgineiemjplhaa
/-- The row, under a short name, for the claim. -/
theorem profileCritical_holds : Rows.ProfileCriticalSaid := profileCritical.proved
end Go.Proofs.Ytdgineiemjplhaa
