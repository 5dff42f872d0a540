/- The readers of the arguments' types of this seat's laws. Written by amrow.py for this claim. -/
import Derived.Test.YtcfijihoepkgeaaAmTab
import Derived.Test.YtcfijihoepkgeaaAmFront
set_option linter.unusedVariables false
namespace Go.AM.Ytcfijihoepkgeaa
open Go Go.AM Go.Proofs
def S3 (vs : List V) : Prop := ∃ n, vs = [.int .i64 n] ∧ (Lit.int .i64 n).wf = true
theorem o3 : OpensV Try.prog 3 1 S3 := opensV_int Try.underlying3
def S23 (vs : List V) : Prop := ∃ a0 b0, vs = a0 ++ b0 ∧ S3 a0 ∧ (∃ a1 b1, b0 = a1 ++ b1 ∧ S3 a1 ∧ (∃ a2 b2, b1 = a2 ++ b2 ∧ S3 a2 ∧ (S3 b2)))
theorem o23 : OpensV Try.prog 23 4 S23 := opensV_struct (l := [(3, 0), (3, 1), (3, 2), (3, 3)]) Try.underlying23 (by kernel_rfl) (by kernel_rfl) (opensVs_cons (n := 1) (m := 3) rfl (by kernel_rfl) rfl o3 (opensVs_cons (n := 1) (m := 2) rfl (by kernel_rfl) rfl o3 (opensVs_cons (n := 1) (m := 1) rfl (by kernel_rfl) rfl o3 (opensVs_one (n := 1) rfl (by kernel_rfl) o3))))
theorem flat23 {vs : List V} (h : S23 vs) : ∃ l_0 l_1 l_2 l_3, vs = [.int .i64 l_0, .int .i64 l_1, .int .i64 l_2, .int .i64 l_3] ∧ (Lit.int .i64 l_0).wf = true ∧ (Lit.int .i64 l_1).wf = true ∧ (Lit.int .i64 l_2).wf = true ∧ (Lit.int .i64 l_3).wf = true := by
  obtain ⟨_, _, rfl, ⟨l_0, rfl, hl_00⟩, ⟨_, _, rfl, ⟨l_1, rfl, hl_10⟩, ⟨_, _, rfl, ⟨l_2, rfl, hl_20⟩, ⟨l_3, rfl, hl_30⟩⟩⟩⟩ := h
  exact ⟨l_0, l_1, l_2, l_3, rfl, hl_00, hl_10, hl_20, hl_30⟩
def A23 (x : V) : Prop := ∃ vs, x = .agg vs ∧ S23 vs
theorem r23 : Reads Try.prog 23 A23 := reads_struct (l := [(3, 0), (3, 1), (3, 2), (3, 3)]) Try.underlying23 (by kernel_rfl) (by kernel_rfl) (opensVs_cons (n := 1) (m := 3) rfl (by kernel_rfl) rfl o3 (opensVs_cons (n := 1) (m := 2) rfl (by kernel_rfl) rfl o3 (opensVs_cons (n := 1) (m := 1) rfl (by kernel_rfl) rfl o3 (opensVs_one (n := 1) rfl (by kernel_rfl) o3))))
end Go.AM.Ytcfijihoepkgeaa
