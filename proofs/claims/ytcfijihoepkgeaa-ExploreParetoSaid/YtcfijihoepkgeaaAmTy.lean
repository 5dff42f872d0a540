/- The readers of the arguments' types of this seat's laws. Written by amrow.py for this claim. -/
import Derived.Test.YtcfijihoepkgeaaAmTab
import Derived.Test.YtcfijihoepkgeaaAmFront
set_option linter.unusedVariables false
namespace Go.AM.Ytcfijihoepkgeaa
open Go Go.AM Go.Proofs
def S3 (vs : List V) : Prop := ∃ n, vs = [.int .i64 n] ∧ (Lit.int .i64 n).wf = true
theorem o3 : OpensV Try.prog 3 1 S3 := opensV_int Try.underlying3
def S23 (vs : List V) : Prop := ∃ a0 b0, vs = a0 ++ b0 ∧ S3 a0 ∧ (∃ a1 b1, b0 = a1 ++ b1 ∧ S3 a1 ∧ (∃ a2 b2, b1 = a2 ++ b2 ∧ S3 a2 ∧ (S3 b2)))
theorem o23 : OpensV Try.prog 23 4 S23 := opensV_struct (l := [(3, 0), (3, 1), (3, 2), (3, 3)]) Try.underlying23 (by kernel_rfl) (by kernel_rfl) (opensVs_cons (n := 1) (m := 3) rfl (by kernel_rfl) rfl o3 (opensVs_cons (n := 1) (m := 2) rfl (by kernel_rfl) rfl o3 (opensVs_cons (n := 1) (m := 1) rfl (by kernel_rfl) rfl o3 (opensVs_one (n := 1) rfl (by kernel_rfl) o3))))
theorem flat23 {vs : List V} (h : S23 vs) : ∃ l_0 l_1 l_2 l_3, vs = [.int .i64 l_0, .int .i64 l_1, .int .i64 l_2, .int .i64 l_3] ∧ (Lit.int .i64 l_0).wf = true ∧ (Lit.int .i64 l_1).wf = true ∧ (Lit.int .i64 l_2).wf = true ∧ (Lit.int .i64 l_3).wf = true := by
  obtain ⟨_, _, rfl, ⟨l_0, rfl, hl_00⟩, ⟨_, _, rfl, ⟨l_1, rfl, hl_10⟩, ⟨_, _, rfl, ⟨l_2, rfl, hl_20⟩, ⟨l_3, rfl, hl_30⟩⟩⟩⟩ := h
  exact ⟨l_0, l_1, l_2, l_3, rfl, hl_00, hl_10, hl_20, hl_30⟩
def S27 (vs : List V) : Prop := vs = [.nils] ∨ ∃ es, vs = [.tsl 4 es] ∧ es.length * 32 ≤ 140737488351232 ∧ es.length ≤ 9223372036854775807 ∧ ∀ x ∈ es, S23 x
theorem o27 : OpensV Try.prog 27 1 S27 := opensV_slice (n := 4) (B := 32) Try.underlying27 (by kernel_rfl) (by decide) (by kernel_rfl) o23
theorem one27 {vs : List V} (h : S27 vs) : ∃ v, vs = [v] ∧ S27 [v] := by
  rcases h with rfl | ⟨es, rfl, h⟩
  · exact ⟨_, rfl, .inl rfl⟩
  · exact ⟨_, rfl, .inr ⟨es, rfl, h⟩⟩
def S35 (vs : List V) : Prop := vs = [.nils] ∨ ∃ es, vs = [.tsl 1 es] ∧ es.length * 8 ≤ 140737488351232 ∧ es.length ≤ 9223372036854775807 ∧ ∀ x ∈ es, S3 x
theorem o35 : OpensV Try.prog 35 1 S35 := opensV_slice (n := 1) (B := 8) Try.underlying35 (by kernel_rfl) (by decide) (by kernel_rfl) o3
theorem one35 {vs : List V} (h : S35 vs) : ∃ v, vs = [v] ∧ S35 [v] := by
  rcases h with rfl | ⟨es, rfl, h⟩
  · exact ⟨_, rfl, .inl rfl⟩
  · exact ⟨_, rfl, .inr ⟨es, rfl, h⟩⟩
def S52 (vs : List V) : Prop := ∃ a0 b0, vs = a0 ++ b0 ∧ S3 a0 ∧ (S3 b0)
theorem o52 : OpensV Try.prog 52 2 S52 := opensV_struct (l := [(3, 0), (3, 1)]) Try.underlying52 (by kernel_rfl) (by kernel_rfl) (opensVs_cons (n := 1) (m := 1) rfl (by kernel_rfl) rfl o3 (opensVs_one (n := 1) rfl (by kernel_rfl) o3))
theorem flat52 {vs : List V} (h : S52 vs) : ∃ l_0 l_1, vs = [.int .i64 l_0, .int .i64 l_1] ∧ (Lit.int .i64 l_0).wf = true ∧ (Lit.int .i64 l_1).wf = true := by
  obtain ⟨_, _, rfl, ⟨l_0, rfl, hl_00⟩, ⟨l_1, rfl, hl_10⟩⟩ := h
  exact ⟨l_0, l_1, rfl, hl_00, hl_10⟩
def S43 (vs : List V) : Prop := vs = [.nils] ∨ ∃ es, vs = [.tsl 2 es] ∧ es.length * 16 ≤ 140737488351232 ∧ es.length ≤ 9223372036854775807 ∧ ∀ x ∈ es, S52 x
theorem o43 : OpensV Try.prog 43 1 S43 := opensV_slice (n := 2) (B := 16) Try.underlying43 (by kernel_rfl) (by decide) (by kernel_rfl) o52
theorem one43 {vs : List V} (h : S43 vs) : ∃ v, vs = [v] ∧ S43 [v] := by
  rcases h with rfl | ⟨es, rfl, h⟩
  · exact ⟨_, rfl, .inl rfl⟩
  · exact ⟨_, rfl, .inr ⟨es, rfl, h⟩⟩
def S36 (vs : List V) : Prop := vs = [.nils] ∨ ∃ es, vs = [.tsl 1 es] ∧ es.length * 24 ≤ 140737488351232 ∧ es.length ≤ 9223372036854775807 ∧ ∀ x ∈ es, S43 x
theorem o36 : OpensV Try.prog 36 1 S36 := opensV_slice (n := 1) (B := 24) Try.underlying36 (by kernel_rfl) (by decide) (by kernel_rfl) o43
theorem one36 {vs : List V} (h : S36 vs) : ∃ v, vs = [v] ∧ S36 [v] := by
  rcases h with rfl | ⟨es, rfl, h⟩
  · exact ⟨_, rfl, .inl rfl⟩
  · exact ⟨_, rfl, .inr ⟨es, rfl, h⟩⟩
def S38 (vs : List V) : Prop := ∃ a0 b0, vs = a0 ++ b0 ∧ S35 a0 ∧ (∃ a1 b1, b0 = a1 ++ b1 ∧ S35 a1 ∧ (∃ a2 b2, b1 = a2 ++ b2 ∧ S36 a2 ∧ (∃ a3 b3, b2 = a3 ++ b3 ∧ S35 a3 ∧ (∃ a4 b4, b3 = a4 ++ b4 ∧ S35 a4 ∧ (S3 b4)))))
theorem o38 : OpensV Try.prog 38 6 S38 := opensV_struct (l := [(35, 0), (35, 1), (36, 2), (35, 3), (35, 4), (3, 5)]) Try.underlying38 (by kernel_rfl) (by kernel_rfl) (opensVs_cons (n := 1) (m := 5) rfl (by kernel_rfl) rfl o35 (opensVs_cons (n := 1) (m := 4) rfl (by kernel_rfl) rfl o35 (opensVs_cons (n := 1) (m := 3) rfl (by kernel_rfl) rfl o36 (opensVs_cons (n := 1) (m := 2) rfl (by kernel_rfl) rfl o35 (opensVs_cons (n := 1) (m := 1) rfl (by kernel_rfl) rfl o35 (opensVs_one (n := 1) rfl (by kernel_rfl) o3))))))
theorem flat38 {vs : List V} (h : S38 vs) : ∃ l_0 l_1 l_2 l_3 l_4 l_5, vs = [l_0, l_1, l_2, l_3, l_4, .int .i64 l_5] ∧ S35 [l_0] ∧ S35 [l_1] ∧ S36 [l_2] ∧ S35 [l_3] ∧ S35 [l_4] ∧ (Lit.int .i64 l_5).wf = true := by
  obtain ⟨_, _, rfl, l_0r, ⟨_, _, rfl, l_1r, ⟨_, _, rfl, l_2r, ⟨_, _, rfl, l_3r, ⟨_, _, rfl, l_4r, ⟨l_5, rfl, hl_50⟩⟩⟩⟩⟩⟩ := h
  obtain ⟨l_0, rfl, hl_00⟩ := one35 l_0r
  obtain ⟨l_1, rfl, hl_10⟩ := one35 l_1r
  obtain ⟨l_2, rfl, hl_20⟩ := one36 l_2r
  obtain ⟨l_3, rfl, hl_30⟩ := one35 l_3r
  obtain ⟨l_4, rfl, hl_40⟩ := one35 l_4r
  exact ⟨l_0, l_1, l_2, l_3, l_4, l_5, rfl, hl_00, hl_10, hl_20, hl_30, hl_40, hl_50⟩
def A23 (x : V) : Prop := ∃ vs, x = .agg vs ∧ S23 vs
theorem r23 : Reads Try.prog 23 A23 := reads_struct (l := [(3, 0), (3, 1), (3, 2), (3, 3)]) Try.underlying23 (by kernel_rfl) (by kernel_rfl) (opensVs_cons (n := 1) (m := 3) rfl (by kernel_rfl) rfl o3 (opensVs_cons (n := 1) (m := 2) rfl (by kernel_rfl) rfl o3 (opensVs_cons (n := 1) (m := 1) rfl (by kernel_rfl) rfl o3 (opensVs_one (n := 1) rfl (by kernel_rfl) o3))))
def A27 (x : V) : Prop := x = .nils ∨ ∃ es, x = .tsl 4 es ∧ es.length * 32 ≤ 140737488351232 ∧ es.length ≤ 9223372036854775807 ∧ ∀ x ∈ es, S23 x
theorem r27 : Reads Try.prog 27 A27 := reads_slice (n := 4) (B := 32) Try.underlying27 (by kernel_rfl) (by decide) (by kernel_rfl) o23
def A3 (x : V) : Prop := ∃ n, x = .int .i64 n ∧ (Lit.int .i64 n).wf = true
theorem r3 : Reads Try.prog 3 A3 := reads_int Try.underlying3
def A38 (x : V) : Prop := ∃ vs, x = .agg vs ∧ S38 vs
theorem r38 : Reads Try.prog 38 A38 := reads_struct (l := [(35, 0), (35, 1), (36, 2), (35, 3), (35, 4), (3, 5)]) Try.underlying38 (by kernel_rfl) (by kernel_rfl) (opensVs_cons (n := 1) (m := 5) rfl (by kernel_rfl) rfl o35 (opensVs_cons (n := 1) (m := 4) rfl (by kernel_rfl) rfl o35 (opensVs_cons (n := 1) (m := 3) rfl (by kernel_rfl) rfl o36 (opensVs_cons (n := 1) (m := 2) rfl (by kernel_rfl) rfl o35 (opensVs_cons (n := 1) (m := 1) rfl (by kernel_rfl) rfl o35 (opensVs_one (n := 1) rfl (by kernel_rfl) o3))))))
end Go.AM.Ytcfijihoepkgeaa
