/- The readers of the arguments' types of this seat's laws. Written by amrow.py for this claim. -/
import Derived.Test.YtegibclhopenmaaAmTab
import Derived.Test.YtegibclhopenmaaAmFront
set_option linter.unusedVariables false
namespace Go.AM.Ytegibclhopenmaa
open Go Go.AM Go.Proofs
def S9 (vs : List V) : Prop := ∃ s, vs = [.str s] ∧ s.size ≤ 140737488351232
theorem o9 : OpensV Try.prog 9 1 S9 := opensV_string Try.underlying9
def S3 (vs : List V) : Prop := ∃ n, vs = [.int .i64 n] ∧ (Lit.int .i64 n).wf = true
theorem o3 : OpensV Try.prog 3 1 S3 := opensV_int Try.underlying3
def S22 (vs : List V) : Prop := vs = [.nils] ∨ ∃ es, vs = [.tsl 1 es] ∧ es.length * 8 ≤ 140737488351232 ∧ es.length ≤ 9223372036854775807 ∧ ∀ x ∈ es, S3 x
theorem o22 : OpensV Try.prog 22 1 S22 := opensV_slice (n := 1) (B := 8) Try.underlying22 (by kernel_rfl) (by decide) (by kernel_rfl) o3
theorem one22 {vs : List V} (h : S22 vs) : ∃ v, vs = [v] ∧ S22 [v] := by
  rcases h with rfl | ⟨es, rfl, h⟩
  · exact ⟨_, rfl, .inl rfl⟩
  · exact ⟨_, rfl, .inr ⟨es, rfl, h⟩⟩
def S116 (vs : List V) : Prop := ∃ a0 b0, vs = a0 ++ b0 ∧ S9 a0 ∧ (∃ a1 b1, b0 = a1 ++ b1 ∧ S3 a1 ∧ (∃ a2 b2, b1 = a2 ++ b2 ∧ S3 a2 ∧ (∃ a3 b3, b2 = a3 ++ b3 ∧ S3 a3 ∧ (S3 b3))))
theorem o116 : OpensV Try.prog 116 5 S116 := opensV_struct (l := [(9, 0), (3, 1), (3, 2), (3, 3), (3, 4)]) Try.underlying116 (by kernel_rfl) (by kernel_rfl) (opensVs_cons (n := 1) (m := 4) rfl (by kernel_rfl) rfl o9 (opensVs_cons (n := 1) (m := 3) rfl (by kernel_rfl) rfl o3 (opensVs_cons (n := 1) (m := 2) rfl (by kernel_rfl) rfl o3 (opensVs_cons (n := 1) (m := 1) rfl (by kernel_rfl) rfl o3 (opensVs_one (n := 1) rfl (by kernel_rfl) o3)))))
theorem flat116 {vs : List V} (h : S116 vs) : ∃ l_0 l_1 l_2 l_3 l_4, vs = [.str l_0, .int .i64 l_1, .int .i64 l_2, .int .i64 l_3, .int .i64 l_4] ∧ l_0.size ≤ 140737488351232 ∧ (Lit.int .i64 l_1).wf = true ∧ (Lit.int .i64 l_2).wf = true ∧ (Lit.int .i64 l_3).wf = true ∧ (Lit.int .i64 l_4).wf = true := by
  obtain ⟨_, _, rfl, ⟨l_0, rfl, hl_00⟩, ⟨_, _, rfl, ⟨l_1, rfl, hl_10⟩, ⟨_, _, rfl, ⟨l_2, rfl, hl_20⟩, ⟨_, _, rfl, ⟨l_3, rfl, hl_30⟩, ⟨l_4, rfl, hl_40⟩⟩⟩⟩⟩ := h
  exact ⟨l_0, l_1, l_2, l_3, l_4, rfl, hl_00, hl_10, hl_20, hl_30, hl_40⟩
def S23 (vs : List V) : Prop := vs = [.nils] ∨ ∃ es, vs = [.tsl 5 es] ∧ es.length * 48 ≤ 140737488351232 ∧ es.length ≤ 9223372036854775807 ∧ ∀ x ∈ es, S116 x
theorem o23 : OpensV Try.prog 23 1 S23 := opensV_slice (n := 5) (B := 48) Try.underlying23 (by kernel_rfl) (by decide) (by kernel_rfl) o116
theorem one23 {vs : List V} (h : S23 vs) : ∃ v, vs = [v] ∧ S23 [v] := by
  rcases h with rfl | ⟨es, rfl, h⟩
  · exact ⟨_, rfl, .inl rfl⟩
  · exact ⟨_, rfl, .inr ⟨es, rfl, h⟩⟩
def S4 (vs : List V) : Prop := ∃ b, vs = [.bool b]
theorem o4 : OpensV Try.prog 4 1 S4 := opensV_bool Try.underlying4
def S118 (vs : List V) : Prop := ∃ a0 b0, vs = a0 ++ b0 ∧ S9 a0 ∧ (∃ a1 b1, b0 = a1 ++ b1 ∧ S3 a1 ∧ (S4 b1))
theorem o118 : OpensV Try.prog 118 3 S118 := opensV_struct (l := [(9, 0), (3, 1), (4, 2)]) Try.underlying118 (by kernel_rfl) (by kernel_rfl) (opensVs_cons (n := 1) (m := 2) rfl (by kernel_rfl) rfl o9 (opensVs_cons (n := 1) (m := 1) rfl (by kernel_rfl) rfl o3 (opensVs_one (n := 1) rfl (by kernel_rfl) o4)))
theorem flat118 {vs : List V} (h : S118 vs) : ∃ l_0 l_1 l_2, vs = [.str l_0, .int .i64 l_1, .bool l_2] ∧ l_0.size ≤ 140737488351232 ∧ (Lit.int .i64 l_1).wf = true := by
  obtain ⟨_, _, rfl, ⟨l_0, rfl, hl_00⟩, ⟨_, _, rfl, ⟨l_1, rfl, hl_10⟩, ⟨l_2, rfl⟩⟩⟩ := h
  exact ⟨l_0, l_1, l_2, rfl, hl_00, hl_10⟩
def S24 (vs : List V) : Prop := vs = [.nils] ∨ ∃ es, vs = [.tsl 3 es] ∧ es.length * 32 ≤ 140737488351232 ∧ es.length ≤ 9223372036854775807 ∧ ∀ x ∈ es, S118 x
theorem o24 : OpensV Try.prog 24 1 S24 := opensV_slice (n := 3) (B := 32) Try.underlying24 (by kernel_rfl) (by decide) (by kernel_rfl) o118
theorem one24 {vs : List V} (h : S24 vs) : ∃ v, vs = [v] ∧ S24 [v] := by
  rcases h with rfl | ⟨es, rfl, h⟩
  · exact ⟨_, rfl, .inl rfl⟩
  · exact ⟨_, rfl, .inr ⟨es, rfl, h⟩⟩
def S98 (vs : List V) : Prop := ∃ n, vs = [.int .u64 n] ∧ (Lit.int .u64 n).wf = true
theorem o98 : OpensV Try.prog 98 1 S98 := opensV_int Try.underlying98
def S100 (vs : List V) : Prop := ∃ a0 b0, vs = a0 ++ b0 ∧ S3 a0 ∧ (∃ a1 b1, b0 = a1 ++ b1 ∧ S3 a1 ∧ (∃ a2 b2, b1 = a2 ++ b2 ∧ S22 a2 ∧ (∃ a3 b3, b2 = a3 ++ b3 ∧ S98 a3 ∧ (S3 b3))))
theorem o100 : OpensV Try.prog 100 5 S100 := opensV_struct (l := [(3, 0), (3, 1), (22, 2), (98, 3), (3, 4)]) Try.underlying100 (by kernel_rfl) (by kernel_rfl) (opensVs_cons (n := 1) (m := 4) rfl (by kernel_rfl) rfl o3 (opensVs_cons (n := 1) (m := 3) rfl (by kernel_rfl) rfl o3 (opensVs_cons (n := 1) (m := 2) rfl (by kernel_rfl) rfl o22 (opensVs_cons (n := 1) (m := 1) rfl (by kernel_rfl) rfl o98 (opensVs_one (n := 1) rfl (by kernel_rfl) o3)))))
theorem flat100 {vs : List V} (h : S100 vs) : ∃ l_0 l_1 l_2 l_3 l_4, vs = [.int .i64 l_0, .int .i64 l_1, l_2, .int .u64 l_3, .int .i64 l_4] ∧ (Lit.int .i64 l_0).wf = true ∧ (Lit.int .i64 l_1).wf = true ∧ S22 [l_2] ∧ (Lit.int .u64 l_3).wf = true ∧ (Lit.int .i64 l_4).wf = true := by
  obtain ⟨_, _, rfl, ⟨l_0, rfl, hl_00⟩, ⟨_, _, rfl, ⟨l_1, rfl, hl_10⟩, ⟨_, _, rfl, l_2r, ⟨_, _, rfl, ⟨l_3, rfl, hl_30⟩, ⟨l_4, rfl, hl_40⟩⟩⟩⟩⟩ := h
  obtain ⟨l_2, rfl, hl_20⟩ := one22 l_2r
  exact ⟨l_0, l_1, l_2, l_3, l_4, rfl, hl_00, hl_10, hl_20, hl_30, hl_40⟩
def S88 (vs : List V) : Prop := vs = [.nils] ∨ ∃ es, vs = [.tsl 5 es] ∧ es.length * 56 ≤ 140737488351232 ∧ es.length ≤ 9223372036854775807 ∧ ∀ x ∈ es, S100 x
theorem o88 : OpensV Try.prog 88 1 S88 := opensV_slice (n := 5) (B := 56) Try.underlying88 (by kernel_rfl) (by decide) (by kernel_rfl) o100
theorem one88 {vs : List V} (h : S88 vs) : ∃ v, vs = [v] ∧ S88 [v] := by
  rcases h with rfl | ⟨es, rfl, h⟩
  · exact ⟨_, rfl, .inl rfl⟩
  · exact ⟨_, rfl, .inr ⟨es, rfl, h⟩⟩
def S107 (vs : List V) : Prop := ∃ a0 b0, vs = a0 ++ b0 ∧ S3 a0 ∧ (S22 b0)
theorem o107 : OpensV Try.prog 107 2 S107 := opensV_struct (l := [(3, 0), (22, 1)]) Try.underlying107 (by kernel_rfl) (by kernel_rfl) (opensVs_cons (n := 1) (m := 1) rfl (by kernel_rfl) rfl o3 (opensVs_one (n := 1) rfl (by kernel_rfl) o22))
theorem flat107 {vs : List V} (h : S107 vs) : ∃ l_0 l_1, vs = [.int .i64 l_0, l_1] ∧ (Lit.int .i64 l_0).wf = true ∧ S22 [l_1] := by
  obtain ⟨_, _, rfl, ⟨l_0, rfl, hl_00⟩, l_1r⟩ := h
  obtain ⟨l_1, rfl, hl_10⟩ := one22 l_1r
  exact ⟨l_0, l_1, rfl, hl_00, hl_10⟩
def S85 (vs : List V) : Prop := vs = [.nils] ∨ ∃ es, vs = [.tsl 2 es] ∧ es.length * 32 ≤ 140737488351232 ∧ es.length ≤ 9223372036854775807 ∧ ∀ x ∈ es, S107 x
theorem o85 : OpensV Try.prog 85 1 S85 := opensV_slice (n := 2) (B := 32) Try.underlying85 (by kernel_rfl) (by decide) (by kernel_rfl) o107
theorem one85 {vs : List V} (h : S85 vs) : ∃ v, vs = [v] ∧ S85 [v] := by
  rcases h with rfl | ⟨es, rfl, h⟩
  · exact ⟨_, rfl, .inl rfl⟩
  · exact ⟨_, rfl, .inr ⟨es, rfl, h⟩⟩
def S87 (vs : List V) : Prop := ∃ a0 b0, vs = a0 ++ b0 ∧ S3 a0 ∧ (∃ a1 b1, b0 = a1 ++ b1 ∧ S3 a1 ∧ (∃ a2 b2, b1 = a2 ++ b2 ∧ S85 a2 ∧ (S22 b2)))
theorem o87 : OpensV Try.prog 87 4 S87 := opensV_struct (l := [(3, 0), (3, 1), (85, 2), (22, 3)]) Try.underlying87 (by kernel_rfl) (by kernel_rfl) (opensVs_cons (n := 1) (m := 3) rfl (by kernel_rfl) rfl o3 (opensVs_cons (n := 1) (m := 2) rfl (by kernel_rfl) rfl o3 (opensVs_cons (n := 1) (m := 1) rfl (by kernel_rfl) rfl o85 (opensVs_one (n := 1) rfl (by kernel_rfl) o22))))
theorem flat87 {vs : List V} (h : S87 vs) : ∃ l_0 l_1 l_2 l_3, vs = [.int .i64 l_0, .int .i64 l_1, l_2, l_3] ∧ (Lit.int .i64 l_0).wf = true ∧ (Lit.int .i64 l_1).wf = true ∧ S85 [l_2] ∧ S22 [l_3] := by
  obtain ⟨_, _, rfl, ⟨l_0, rfl, hl_00⟩, ⟨_, _, rfl, ⟨l_1, rfl, hl_10⟩, ⟨_, _, rfl, l_2r, l_3r⟩⟩⟩ := h
  obtain ⟨l_2, rfl, hl_20⟩ := one85 l_2r
  obtain ⟨l_3, rfl, hl_30⟩ := one22 l_3r
  exact ⟨l_0, l_1, l_2, l_3, rfl, hl_00, hl_10, hl_20, hl_30⟩
def S90 (vs : List V) : Prop := ∃ a0 b0, vs = a0 ++ b0 ∧ S22 a0 ∧ (∃ a1 b1, b0 = a1 ++ b1 ∧ S88 a1 ∧ (∃ a2 b2, b1 = a2 ++ b2 ∧ S87 a2 ∧ (∃ a3 b3, b2 = a3 ++ b3 ∧ S3 a3 ∧ (∃ a4 b4, b3 = a4 ++ b4 ∧ S3 a4 ∧ (S3 b4)))))
theorem o90 : OpensV Try.prog 90 9 S90 := opensV_struct (l := [(22, 0), (88, 1), (87, 2), (3, 6), (3, 7), (3, 8)]) Try.underlying90 (by kernel_rfl) (by kernel_rfl) (opensVs_cons (n := 1) (m := 8) rfl (by kernel_rfl) rfl o22 (opensVs_cons (n := 1) (m := 7) rfl (by kernel_rfl) rfl o88 (opensVs_cons (n := 4) (m := 3) rfl (by kernel_rfl) rfl o87 (opensVs_cons (n := 1) (m := 2) rfl (by kernel_rfl) rfl o3 (opensVs_cons (n := 1) (m := 1) rfl (by kernel_rfl) rfl o3 (opensVs_one (n := 1) rfl (by kernel_rfl) o3))))))
theorem flat90 {vs : List V} (h : S90 vs) : ∃ l_0 l_1 l_2_0 l_2_1 l_2_2 l_2_3 l_3 l_4 l_5, vs = [l_0, l_1, .int .i64 l_2_0, .int .i64 l_2_1, l_2_2, l_2_3, .int .i64 l_3, .int .i64 l_4, .int .i64 l_5] ∧ S22 [l_0] ∧ S88 [l_1] ∧ (Lit.int .i64 l_2_0).wf = true ∧ (Lit.int .i64 l_2_1).wf = true ∧ S85 [l_2_2] ∧ S22 [l_2_3] ∧ (Lit.int .i64 l_3).wf = true ∧ (Lit.int .i64 l_4).wf = true ∧ (Lit.int .i64 l_5).wf = true := by
  obtain ⟨_, _, rfl, l_0r, ⟨_, _, rfl, l_1r, ⟨_, _, rfl, ⟨_, _, rfl, ⟨l_2_0, rfl, hl_2_00⟩, ⟨_, _, rfl, ⟨l_2_1, rfl, hl_2_10⟩, ⟨_, _, rfl, l_2_2r, l_2_3r⟩⟩⟩, ⟨_, _, rfl, ⟨l_3, rfl, hl_30⟩, ⟨_, _, rfl, ⟨l_4, rfl, hl_40⟩, ⟨l_5, rfl, hl_50⟩⟩⟩⟩⟩⟩ := h
  obtain ⟨l_0, rfl, hl_00⟩ := one22 l_0r
  obtain ⟨l_1, rfl, hl_10⟩ := one88 l_1r
  obtain ⟨l_2_2, rfl, hl_2_20⟩ := one85 l_2_2r
  obtain ⟨l_2_3, rfl, hl_2_30⟩ := one22 l_2_3r
  exact ⟨l_0, l_1, l_2_0, l_2_1, l_2_2, l_2_3, l_3, l_4, l_5, rfl, hl_00, hl_10, hl_2_00, hl_2_10, hl_2_20, hl_2_30, hl_30, hl_40, hl_50⟩
def S25 (vs : List V) : Prop := vs = [.nils] ∨ ∃ es, vs = [.tsl 9 es] ∧ es.length * 136 ≤ 140737488351232 ∧ es.length ≤ 9223372036854775807 ∧ ∀ x ∈ es, S90 x
theorem o25 : OpensV Try.prog 25 1 S25 := opensV_slice (n := 9) (B := 136) Try.underlying25 (by kernel_rfl) (by decide) (by kernel_rfl) o90
theorem one25 {vs : List V} (h : S25 vs) : ∃ v, vs = [v] ∧ S25 [v] := by
  rcases h with rfl | ⟨es, rfl, h⟩
  · exact ⟨_, rfl, .inl rfl⟩
  · exact ⟨_, rfl, .inr ⟨es, rfl, h⟩⟩
def S27 (vs : List V) : Prop := ∃ a0 b0, vs = a0 ++ b0 ∧ S9 a0 ∧ (∃ a1 b1, b0 = a1 ++ b1 ∧ S22 a1 ∧ (∃ a2 b2, b1 = a2 ++ b2 ∧ S23 a2 ∧ (∃ a3 b3, b2 = a3 ++ b3 ∧ S24 a3 ∧ (∃ a4 b4, b3 = a4 ++ b4 ∧ S22 a4 ∧ (S25 b4)))))
theorem o27 : OpensV Try.prog 27 6 S27 := opensV_struct (l := [(9, 0), (22, 1), (23, 2), (24, 3), (22, 4), (25, 5)]) Try.underlying27 (by kernel_rfl) (by kernel_rfl) (opensVs_cons (n := 1) (m := 5) rfl (by kernel_rfl) rfl o9 (opensVs_cons (n := 1) (m := 4) rfl (by kernel_rfl) rfl o22 (opensVs_cons (n := 1) (m := 3) rfl (by kernel_rfl) rfl o23 (opensVs_cons (n := 1) (m := 2) rfl (by kernel_rfl) rfl o24 (opensVs_cons (n := 1) (m := 1) rfl (by kernel_rfl) rfl o22 (opensVs_one (n := 1) rfl (by kernel_rfl) o25))))))
theorem flat27 {vs : List V} (h : S27 vs) : ∃ l_0 l_1 l_2 l_3 l_4 l_5, vs = [.str l_0, l_1, l_2, l_3, l_4, l_5] ∧ l_0.size ≤ 140737488351232 ∧ S22 [l_1] ∧ S23 [l_2] ∧ S24 [l_3] ∧ S22 [l_4] ∧ S25 [l_5] := by
  obtain ⟨_, _, rfl, ⟨l_0, rfl, hl_00⟩, ⟨_, _, rfl, l_1r, ⟨_, _, rfl, l_2r, ⟨_, _, rfl, l_3r, ⟨_, _, rfl, l_4r, l_5r⟩⟩⟩⟩⟩ := h
  obtain ⟨l_1, rfl, hl_10⟩ := one22 l_1r
  obtain ⟨l_2, rfl, hl_20⟩ := one23 l_2r
  obtain ⟨l_3, rfl, hl_30⟩ := one24 l_3r
  obtain ⟨l_4, rfl, hl_40⟩ := one22 l_4r
  obtain ⟨l_5, rfl, hl_50⟩ := one25 l_5r
  exact ⟨l_0, l_1, l_2, l_3, l_4, l_5, rfl, hl_00, hl_10, hl_20, hl_30, hl_40, hl_50⟩
def S70 (vs : List V) : Prop := ∃ a0 b0, vs = a0 ++ b0 ∧ S3 a0 ∧ (∃ a1 b1, b0 = a1 ++ b1 ∧ S3 a1 ∧ (∃ a2 b2, b1 = a2 ++ b2 ∧ S22 a2 ∧ (∃ a3 b3, b2 = a3 ++ b3 ∧ S22 a3 ∧ (S22 b3))))
theorem o70 : OpensV Try.prog 70 5 S70 := opensV_struct (l := [(3, 0), (3, 1), (22, 2), (22, 3), (22, 4)]) Try.underlying70 (by kernel_rfl) (by kernel_rfl) (opensVs_cons (n := 1) (m := 4) rfl (by kernel_rfl) rfl o3 (opensVs_cons (n := 1) (m := 3) rfl (by kernel_rfl) rfl o3 (opensVs_cons (n := 1) (m := 2) rfl (by kernel_rfl) rfl o22 (opensVs_cons (n := 1) (m := 1) rfl (by kernel_rfl) rfl o22 (opensVs_one (n := 1) rfl (by kernel_rfl) o22)))))
theorem flat70 {vs : List V} (h : S70 vs) : ∃ l_0 l_1 l_2 l_3 l_4, vs = [.int .i64 l_0, .int .i64 l_1, l_2, l_3, l_4] ∧ (Lit.int .i64 l_0).wf = true ∧ (Lit.int .i64 l_1).wf = true ∧ S22 [l_2] ∧ S22 [l_3] ∧ S22 [l_4] := by
  obtain ⟨_, _, rfl, ⟨l_0, rfl, hl_00⟩, ⟨_, _, rfl, ⟨l_1, rfl, hl_10⟩, ⟨_, _, rfl, l_2r, ⟨_, _, rfl, l_3r, l_4r⟩⟩⟩⟩ := h
  obtain ⟨l_2, rfl, hl_20⟩ := one22 l_2r
  obtain ⟨l_3, rfl, hl_30⟩ := one22 l_3r
  obtain ⟨l_4, rfl, hl_40⟩ := one22 l_4r
  exact ⟨l_0, l_1, l_2, l_3, l_4, rfl, hl_00, hl_10, hl_20, hl_30, hl_40⟩
def S28 (vs : List V) : Prop := vs = [.nils] ∨ ∃ es, vs = [.tsl 5 es] ∧ es.length * 88 ≤ 140737488351232 ∧ es.length ≤ 9223372036854775807 ∧ ∀ x ∈ es, S70 x
theorem o28 : OpensV Try.prog 28 1 S28 := opensV_slice (n := 5) (B := 88) Try.underlying28 (by kernel_rfl) (by decide) (by kernel_rfl) o70
theorem one28 {vs : List V} (h : S28 vs) : ∃ v, vs = [v] ∧ S28 [v] := by
  rcases h with rfl | ⟨es, rfl, h⟩
  · exact ⟨_, rfl, .inl rfl⟩
  · exact ⟨_, rfl, .inr ⟨es, rfl, h⟩⟩
def S30 (vs : List V) : Prop := ∃ a0 b0, vs = a0 ++ b0 ∧ S27 a0 ∧ (∃ a1 b1, b0 = a1 ++ b1 ∧ S28 a1 ∧ (S22 b1))
theorem o30 : OpensV Try.prog 30 8 S30 := opensV_struct (l := [(27, 0), (28, 6), (22, 7)]) Try.underlying30 (by kernel_rfl) (by kernel_rfl) (opensVs_cons (n := 6) (m := 2) rfl (by kernel_rfl) rfl o27 (opensVs_cons (n := 1) (m := 1) rfl (by kernel_rfl) rfl o28 (opensVs_one (n := 1) rfl (by kernel_rfl) o22)))
theorem flat30 {vs : List V} (h : S30 vs) : ∃ l_0_0 l_0_1 l_0_2 l_0_3 l_0_4 l_0_5 l_1 l_2, vs = [.str l_0_0, l_0_1, l_0_2, l_0_3, l_0_4, l_0_5, l_1, l_2] ∧ l_0_0.size ≤ 140737488351232 ∧ S22 [l_0_1] ∧ S23 [l_0_2] ∧ S24 [l_0_3] ∧ S22 [l_0_4] ∧ S25 [l_0_5] ∧ S28 [l_1] ∧ S22 [l_2] := by
  obtain ⟨_, _, rfl, ⟨_, _, rfl, ⟨l_0_0, rfl, hl_0_00⟩, ⟨_, _, rfl, l_0_1r, ⟨_, _, rfl, l_0_2r, ⟨_, _, rfl, l_0_3r, ⟨_, _, rfl, l_0_4r, l_0_5r⟩⟩⟩⟩⟩, ⟨_, _, rfl, l_1r, l_2r⟩⟩ := h
  obtain ⟨l_0_1, rfl, hl_0_10⟩ := one22 l_0_1r
  obtain ⟨l_0_2, rfl, hl_0_20⟩ := one23 l_0_2r
  obtain ⟨l_0_3, rfl, hl_0_30⟩ := one24 l_0_3r
  obtain ⟨l_0_4, rfl, hl_0_40⟩ := one22 l_0_4r
  obtain ⟨l_0_5, rfl, hl_0_50⟩ := one25 l_0_5r
  obtain ⟨l_1, rfl, hl_10⟩ := one28 l_1r
  obtain ⟨l_2, rfl, hl_20⟩ := one22 l_2r
  exact ⟨l_0_0, l_0_1, l_0_2, l_0_3, l_0_4, l_0_5, l_1, l_2, rfl, hl_0_00, hl_0_10, hl_0_20, hl_0_30, hl_0_40, hl_0_50, hl_10, hl_20⟩
def A30 (x : V) : Prop := ∃ vs, x = .agg vs ∧ S30 vs
theorem r30 : Reads Try.prog 30 A30 := reads_struct (l := [(27, 0), (28, 6), (22, 7)]) Try.underlying30 (by kernel_rfl) (by kernel_rfl) (opensVs_cons (n := 6) (m := 2) rfl (by kernel_rfl) rfl o27 (opensVs_cons (n := 1) (m := 1) rfl (by kernel_rfl) rfl o28 (opensVs_one (n := 1) rfl (by kernel_rfl) o22)))
def A3 (x : V) : Prop := ∃ n, x = .int .i64 n ∧ (Lit.int .i64 n).wf = true
theorem r3 : Reads Try.prog 3 A3 := reads_int Try.underlying3
end Go.AM.Ytegibclhopenmaa
