/- The readers of the arguments' types of this seat's laws. Written by amrow.py for this claim. -/
import Derived.Test.YtdgineiemjplhaaAmTab
import Derived.Test.YtdgineiemjplhaaAmFront
set_option linter.unusedVariables false
namespace Go.AM.Ytdgineiemjplhaa
open Go Go.AM Go.Proofs
def S3 (vs : List V) : Prop := ∃ n, vs = [.int .i64 n] ∧ (Lit.int .i64 n).wf = true
theorem o3 : OpensV Try.prog 3 1 S3 := opensV_int Try.underlying3
def S4 (vs : List V) : Prop := ∃ b, vs = [.bool b]
theorem o4 : OpensV Try.prog 4 1 S4 := opensV_bool Try.underlying4
def S39 (vs : List V) : Prop := ∃ a0 b0, vs = a0 ++ b0 ∧ S3 a0 ∧ (∃ a1 b1, b0 = a1 ++ b1 ∧ S3 a1 ∧ (∃ a2 b2, b1 = a2 ++ b2 ∧ S3 a2 ∧ (S3 b2)))
theorem o39 : OpensV Try.prog 39 4 S39 := opensV_struct (l := [(3, 0), (3, 1), (3, 2), (3, 3)]) Try.underlying39 (by kernel_rfl) (by kernel_rfl) (opensVs_cons (n := 1) (m := 3) rfl (by kernel_rfl) rfl o3 (opensVs_cons (n := 1) (m := 2) rfl (by kernel_rfl) rfl o3 (opensVs_cons (n := 1) (m := 1) rfl (by kernel_rfl) rfl o3 (opensVs_one (n := 1) rfl (by kernel_rfl) o3))))
theorem flat39 {vs : List V} (h : S39 vs) : ∃ l_0 l_1 l_2 l_3, vs = [.int .i64 l_0, .int .i64 l_1, .int .i64 l_2, .int .i64 l_3] ∧ (Lit.int .i64 l_0).wf = true ∧ (Lit.int .i64 l_1).wf = true ∧ (Lit.int .i64 l_2).wf = true ∧ (Lit.int .i64 l_3).wf = true := by
  obtain ⟨_, _, rfl, ⟨l_0, rfl, hl_00⟩, ⟨_, _, rfl, ⟨l_1, rfl, hl_10⟩, ⟨_, _, rfl, ⟨l_2, rfl, hl_20⟩, ⟨l_3, rfl, hl_30⟩⟩⟩⟩ := h
  exact ⟨l_0, l_1, l_2, l_3, rfl, hl_00, hl_10, hl_20, hl_30⟩
def S22 (vs : List V) : Prop := vs = [.nils] ∨ ∃ es, vs = [.tsl 4 es] ∧ es.length * 32 ≤ 140737488351232 ∧ es.length ≤ 9223372036854775807 ∧ ∀ x ∈ es, S39 x
theorem o22 : OpensV Try.prog 22 1 S22 := opensV_slice (n := 4) (B := 32) Try.underlying22 (by kernel_rfl) (by decide) (by kernel_rfl) o39
theorem one22 {vs : List V} (h : S22 vs) : ∃ v, vs = [v] ∧ S22 [v] := by
  rcases h with rfl | ⟨es, rfl, h⟩
  · exact ⟨_, rfl, .inl rfl⟩
  · exact ⟨_, rfl, .inr ⟨es, rfl, h⟩⟩
def S41 (vs : List V) : Prop := ∃ a0 b0, vs = a0 ++ b0 ∧ S3 a0 ∧ (∃ a1 b1, b0 = a1 ++ b1 ∧ S3 a1 ∧ (∃ a2 b2, b1 = a2 ++ b2 ∧ S3 a2 ∧ (S3 b2)))
theorem o41 : OpensV Try.prog 41 4 S41 := opensV_struct (l := [(3, 0), (3, 1), (3, 2), (3, 3)]) Try.underlying41 (by kernel_rfl) (by kernel_rfl) (opensVs_cons (n := 1) (m := 3) rfl (by kernel_rfl) rfl o3 (opensVs_cons (n := 1) (m := 2) rfl (by kernel_rfl) rfl o3 (opensVs_cons (n := 1) (m := 1) rfl (by kernel_rfl) rfl o3 (opensVs_one (n := 1) rfl (by kernel_rfl) o3))))
theorem flat41 {vs : List V} (h : S41 vs) : ∃ l_0 l_1 l_2 l_3, vs = [.int .i64 l_0, .int .i64 l_1, .int .i64 l_2, .int .i64 l_3] ∧ (Lit.int .i64 l_0).wf = true ∧ (Lit.int .i64 l_1).wf = true ∧ (Lit.int .i64 l_2).wf = true ∧ (Lit.int .i64 l_3).wf = true := by
  obtain ⟨_, _, rfl, ⟨l_0, rfl, hl_00⟩, ⟨_, _, rfl, ⟨l_1, rfl, hl_10⟩, ⟨_, _, rfl, ⟨l_2, rfl, hl_20⟩, ⟨l_3, rfl, hl_30⟩⟩⟩⟩ := h
  exact ⟨l_0, l_1, l_2, l_3, rfl, hl_00, hl_10, hl_20, hl_30⟩
def S23 (vs : List V) : Prop := vs = [.nils] ∨ ∃ es, vs = [.tsl 4 es] ∧ es.length * 32 ≤ 140737488351232 ∧ es.length ≤ 9223372036854775807 ∧ ∀ x ∈ es, S41 x
theorem o23 : OpensV Try.prog 23 1 S23 := opensV_slice (n := 4) (B := 32) Try.underlying23 (by kernel_rfl) (by decide) (by kernel_rfl) o41
theorem one23 {vs : List V} (h : S23 vs) : ∃ v, vs = [v] ∧ S23 [v] := by
  rcases h with rfl | ⟨es, rfl, h⟩
  · exact ⟨_, rfl, .inl rfl⟩
  · exact ⟨_, rfl, .inr ⟨es, rfl, h⟩⟩
def S47 (vs : List V) : Prop := ∃ a0 b0, vs = a0 ++ b0 ∧ S3 a0 ∧ (S3 b0)
theorem o47 : OpensV Try.prog 47 2 S47 := opensV_struct (l := [(3, 0), (3, 1)]) Try.underlying47 (by kernel_rfl) (by kernel_rfl) (opensVs_cons (n := 1) (m := 1) rfl (by kernel_rfl) rfl o3 (opensVs_one (n := 1) rfl (by kernel_rfl) o3))
theorem flat47 {vs : List V} (h : S47 vs) : ∃ l_0 l_1, vs = [.int .i64 l_0, .int .i64 l_1] ∧ (Lit.int .i64 l_0).wf = true ∧ (Lit.int .i64 l_1).wf = true := by
  obtain ⟨_, _, rfl, ⟨l_0, rfl, hl_00⟩, ⟨l_1, rfl, hl_10⟩⟩ := h
  exact ⟨l_0, l_1, rfl, hl_00, hl_10⟩
def S24 (vs : List V) : Prop := vs = [.nils] ∨ ∃ es, vs = [.tsl 2 es] ∧ es.length * 16 ≤ 140737488351232 ∧ es.length ≤ 9223372036854775807 ∧ ∀ x ∈ es, S47 x
theorem o24 : OpensV Try.prog 24 1 S24 := opensV_slice (n := 2) (B := 16) Try.underlying24 (by kernel_rfl) (by decide) (by kernel_rfl) o47
theorem one24 {vs : List V} (h : S24 vs) : ∃ v, vs = [v] ∧ S24 [v] := by
  rcases h with rfl | ⟨es, rfl, h⟩
  · exact ⟨_, rfl, .inl rfl⟩
  · exact ⟨_, rfl, .inr ⟨es, rfl, h⟩⟩
def S26 (vs : List V) : Prop := ∃ a0 b0, vs = a0 ++ b0 ∧ S3 a0 ∧ (∃ a1 b1, b0 = a1 ++ b1 ∧ S3 a1 ∧ (∃ a2 b2, b1 = a2 ++ b2 ∧ S4 a2 ∧ (∃ a3 b3, b2 = a3 ++ b3 ∧ S22 a3 ∧ (∃ a4 b4, b3 = a4 ++ b4 ∧ S23 a4 ∧ (S24 b4)))))
theorem o26 : OpensV Try.prog 26 6 S26 := opensV_struct (l := [(3, 0), (3, 1), (4, 2), (22, 3), (23, 4), (24, 5)]) Try.underlying26 (by kernel_rfl) (by kernel_rfl) (opensVs_cons (n := 1) (m := 5) rfl (by kernel_rfl) rfl o3 (opensVs_cons (n := 1) (m := 4) rfl (by kernel_rfl) rfl o3 (opensVs_cons (n := 1) (m := 3) rfl (by kernel_rfl) rfl o4 (opensVs_cons (n := 1) (m := 2) rfl (by kernel_rfl) rfl o22 (opensVs_cons (n := 1) (m := 1) rfl (by kernel_rfl) rfl o23 (opensVs_one (n := 1) rfl (by kernel_rfl) o24))))))
theorem flat26 {vs : List V} (h : S26 vs) : ∃ l_0 l_1 l_2 l_3 l_4 l_5, vs = [.int .i64 l_0, .int .i64 l_1, .bool l_2, l_3, l_4, l_5] ∧ (Lit.int .i64 l_0).wf = true ∧ (Lit.int .i64 l_1).wf = true ∧ S22 [l_3] ∧ S23 [l_4] ∧ S24 [l_5] := by
  obtain ⟨_, _, rfl, ⟨l_0, rfl, hl_00⟩, ⟨_, _, rfl, ⟨l_1, rfl, hl_10⟩, ⟨_, _, rfl, ⟨l_2, rfl⟩, ⟨_, _, rfl, l_3r, ⟨_, _, rfl, l_4r, l_5r⟩⟩⟩⟩⟩ := h
  obtain ⟨l_3, rfl, hl_30⟩ := one22 l_3r
  obtain ⟨l_4, rfl, hl_40⟩ := one23 l_4r
  obtain ⟨l_5, rfl, hl_50⟩ := one24 l_5r
  exact ⟨l_0, l_1, l_2, l_3, l_4, l_5, rfl, hl_00, hl_10, hl_30, hl_40, hl_50⟩
def S27 (vs : List V) : Prop := vs = [.nils] ∨ ∃ es, vs = [.tsl 1 es] ∧ es.length * 8 ≤ 140737488351232 ∧ es.length ≤ 9223372036854775807 ∧ ∀ x ∈ es, S3 x
theorem o27 : OpensV Try.prog 27 1 S27 := opensV_slice (n := 1) (B := 8) Try.underlying27 (by kernel_rfl) (by decide) (by kernel_rfl) o3
theorem one27 {vs : List V} (h : S27 vs) : ∃ v, vs = [v] ∧ S27 [v] := by
  rcases h with rfl | ⟨es, rfl, h⟩
  · exact ⟨_, rfl, .inl rfl⟩
  · exact ⟨_, rfl, .inr ⟨es, rfl, h⟩⟩
def S29 (vs : List V) : Prop := ∃ a0 b0, vs = a0 ++ b0 ∧ S3 a0 ∧ (∃ a1 b1, b0 = a1 ++ b1 ∧ S3 a1 ∧ (∃ a2 b2, b1 = a2 ++ b2 ∧ S27 a2 ∧ (S3 b2)))
theorem o29 : OpensV Try.prog 29 4 S29 := opensV_struct (l := [(3, 0), (3, 1), (27, 2), (3, 3)]) Try.underlying29 (by kernel_rfl) (by kernel_rfl) (opensVs_cons (n := 1) (m := 3) rfl (by kernel_rfl) rfl o3 (opensVs_cons (n := 1) (m := 2) rfl (by kernel_rfl) rfl o3 (opensVs_cons (n := 1) (m := 1) rfl (by kernel_rfl) rfl o27 (opensVs_one (n := 1) rfl (by kernel_rfl) o3))))
theorem flat29 {vs : List V} (h : S29 vs) : ∃ l_0 l_1 l_2 l_3, vs = [.int .i64 l_0, .int .i64 l_1, l_2, .int .i64 l_3] ∧ (Lit.int .i64 l_0).wf = true ∧ (Lit.int .i64 l_1).wf = true ∧ S27 [l_2] ∧ (Lit.int .i64 l_3).wf = true := by
  obtain ⟨_, _, rfl, ⟨l_0, rfl, hl_00⟩, ⟨_, _, rfl, ⟨l_1, rfl, hl_10⟩, ⟨_, _, rfl, l_2r, ⟨l_3, rfl, hl_30⟩⟩⟩⟩ := h
  obtain ⟨l_2, rfl, hl_20⟩ := one27 l_2r
  exact ⟨l_0, l_1, l_2, l_3, rfl, hl_00, hl_10, hl_20, hl_30⟩
def A26 (x : V) : Prop := ∃ vs, x = .agg vs ∧ S26 vs
theorem r26 : Reads Try.prog 26 A26 := reads_struct (l := [(3, 0), (3, 1), (4, 2), (22, 3), (23, 4), (24, 5)]) Try.underlying26 (by kernel_rfl) (by kernel_rfl) (opensVs_cons (n := 1) (m := 5) rfl (by kernel_rfl) rfl o3 (opensVs_cons (n := 1) (m := 4) rfl (by kernel_rfl) rfl o3 (opensVs_cons (n := 1) (m := 3) rfl (by kernel_rfl) rfl o4 (opensVs_cons (n := 1) (m := 2) rfl (by kernel_rfl) rfl o22 (opensVs_cons (n := 1) (m := 1) rfl (by kernel_rfl) rfl o23 (opensVs_one (n := 1) rfl (by kernel_rfl) o24))))))
def A29 (x : V) : Prop := ∃ vs, x = .agg vs ∧ S29 vs
theorem r29 : Reads Try.prog 29 A29 := reads_struct (l := [(3, 0), (3, 1), (27, 2), (3, 3)]) Try.underlying29 (by kernel_rfl) (by kernel_rfl) (opensVs_cons (n := 1) (m := 3) rfl (by kernel_rfl) rfl o3 (opensVs_cons (n := 1) (m := 2) rfl (by kernel_rfl) rfl o3 (opensVs_cons (n := 1) (m := 1) rfl (by kernel_rfl) rfl o27 (opensVs_one (n := 1) rfl (by kernel_rfl) o3))))
end Go.AM.Ytdgineiemjplhaa
