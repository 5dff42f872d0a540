/- The contracts of slices.Sorted, maps.Keys and slices.Sort at this dump, laid in plain words (written by the kit's tool lay-plain for this claim). -/
import Derived.Shelf.SlIterI.Nil
import Derived.Shelf.SortM.Plain
import Derived.Shelf.SortM.SortNone
import Derived.Ground.GgzProg
import Derived.Ground.SlgmProg
import Derived.Test.YtegibclhopenmaaProg
import Derived.Test.YtegibclhopenmaaAmPu
namespace Go.Proofs
open Go.Shelf
def Try.keysL_ren : Go.Shelf.Ren := ⟨fun | 7 => 21 | 10 => 36 | n => n, fun | 23 => 78 | 26 => 3 | 3 => 54 | 28 => 82 | 0 => 0 | 27 => 81 | 33 => 103 | 4 => 4 | n => n, fun | n => n⟩
theorem Try.keysL : Go.Proofs.SlLaysZI.n7 Try.prog Try.keysL_ren := {
  mixed := by kernel_rfl
  f7 := ⟨Try.f21.name, by decide, Try.func21.trans (congrArg some (by kernel_rfl))⟩
  f10 := ⟨Try.f36.name, by decide, Try.func36.trans (congrArg some (by kernel_rfl))⟩
  t0 := Try.underlying0
  a0 := Try.isAgg0
  z0 := Try.sizeOf0
  v0 := Try.zeroValue0
  t4 := Try.underlying4
  a4 := Try.isAgg4
  z4 := Try.sizeOf4
  v4 := Try.zeroValue4
  t23 := Try.underlying78
  a23 := Try.isAgg78
  z23 := Try.sizeOf78
  v23 := Try.zeroValue78
  t26 := Try.underlying3
  a26 := Try.isAgg3
  z26 := Try.sizeOf3
  v26 := Try.zeroValue3
  t27 := Try.underlying81
  a27 := Try.isAgg81
  z27 := Try.sizeOf81
  v27 := Try.zeroValue81
  t28 := Try.underlying82
  a28 := Try.isAgg82
  z28 := Try.sizeOf82
  v28 := Try.zeroValue82
  t33 := Try.underlying103
  a33 := Try.isAgg103
  z33 := Try.sizeOf103
  v33 := Try.zeroValue103 }
def Try.sortedL_ren : Go.Shelf.Ren := ⟨fun | 6 => 20 | 8 => 34 | 9 => 35 | 11 => 46 | 13 => 48 | 12 => 47 | 23 => 64 | 24 => 65 | 14 => 55 | 15 => 56 | 16 => 57 | 17 => 58 | 18 => 59 | 19 => 60 | 20 => 61 | 21 => 62 | 22 => 63 | 25 => 67 | 26 => 68 | 27 => 69 | 28 => 70 | 29 => 71 | 30 => 72 | 31 => 73 | n => n, fun | 26 => 3 | 28 => 82 | 24 => 22 | 0 => 0 | 3 => 3 | 37 => 124 | 48 => 138 | 50 => 98 | 4 => 4 | 40 => 130 | 39 => 129 | 45 => 135 | 5 => 5 | 9 => 9 | 51 => 140 | 55 => 144 | 57 => 146 | 58 => 147 | 33 => 103 | n => n, fun | n => n⟩
theorem Try.sortedL : Go.Proofs.SlLaysZI.n6 Try.prog Try.sortedL_ren := {
  mixed := by kernel_rfl
  f6 := ⟨Try.f20.name, by decide, Try.func20.trans (congrArg some (by kernel_rfl))⟩
  f8 := ⟨Try.f34.name, by decide, Try.func34.trans (congrArg some (by kernel_rfl))⟩
  f11 := ⟨Try.f46.name, by decide, Try.func46.trans (congrArg some (by kernel_rfl))⟩
  t0 := Try.underlying0
  a0 := Try.isAgg0
  z0 := Try.sizeOf0
  v0 := Try.zeroValue0
  t24 := Try.underlying22
  a24 := Try.isAgg22
  z24 := Try.sizeOf22
  v24 := Try.zeroValue22
  t26 := Try.underlying3
  a26 := Try.isAgg3
  z26 := Try.sizeOf3
  v26 := Try.zeroValue3
  t28 := Try.underlying82
  a28 := Try.isAgg82
  z28 := Try.sizeOf82
  v28 := Try.zeroValue82
  i26 := by kernel_rfl }
def Try.sortL_ren : Go.Shelf.Ren := ⟨fun | 5 => 35 | 8 => 48 | 7 => 47 | 19 => 64 | 20 => 65 | 10 => 55 | 11 => 56 | 12 => 57 | 13 => 58 | 14 => 59 | 15 => 60 | 16 => 61 | 17 => 62 | 18 => 63 | 30 => 67 | 31 => 68 | 32 => 69 | 33 => 70 | 34 => 71 | 35 => 72 | 40 => 73 | n => n, fun | 23 => 22 | 25 => 3 | 3 => 3 | 32 => 124 | 22 => 22 | 0 => 0 | 44 => 138 | 46 => 98 | 4 => 4 | 36 => 130 | 35 => 129 | 41 => 135 | 5 => 5 | 9 => 9 | 53 => 140 | 57 => 144 | 63 => 146 | 64 => 147 | n => n, fun | n => n⟩
theorem Try.sortL : Go.Proofs.SlLaysM.n5 Try.prog Try.sortL_ren := {
  mixed := by kernel_rfl
  f5 := ⟨Try.f35.name, by decide, Try.func35.trans (congrArg some (by kernel_rfl))⟩
  f7 := ⟨Try.f47.name, by decide, Try.func47.trans (congrArg some (by kernel_rfl))⟩
  f8 := Try.func48.trans (congrArg some (by kernel_rfl))
  f10 := ⟨Try.f55.name, by decide, Try.func55.trans (congrArg some (by kernel_rfl))⟩
  f11 := ⟨Try.f56.name, by decide, Try.func56.trans (congrArg some (by kernel_rfl))⟩
  f12 := ⟨Try.f57.name, by decide, Try.func57.trans (congrArg some (by kernel_rfl))⟩
  f13 := ⟨Try.f58.name, by decide, Try.func58.trans (congrArg some (by kernel_rfl))⟩
  f14 := ⟨Try.f59.name, by decide, Try.func59.trans (congrArg some (by kernel_rfl))⟩
  f15 := ⟨Try.f60.name, by decide, Try.func60.trans (congrArg some (by kernel_rfl))⟩
  f16 := ⟨Try.f61.name, by decide, Try.func61.trans (congrArg some (by kernel_rfl))⟩
  f17 := ⟨Try.f62.name, by decide, Try.func62.trans (congrArg some (by kernel_rfl))⟩
  f18 := ⟨Try.f63.name, by decide, Try.func63.trans (congrArg some (by kernel_rfl))⟩
  f19 := Try.func64.trans (congrArg some (by kernel_rfl))
  f20 := Try.func65.trans (congrArg some (by kernel_rfl))
  f30 := ⟨Try.f67.name, by decide, Try.func67.trans (congrArg some (by kernel_rfl))⟩
  f31 := Try.func68.trans (congrArg some (by kernel_rfl))
  f32 := Try.func69.trans (congrArg some (by kernel_rfl))
  f33 := ⟨Try.f70.name, by decide, Try.func70.trans (congrArg some (by kernel_rfl))⟩
  f34 := ⟨Try.f71.name, by decide, Try.func71.trans (congrArg some (by kernel_rfl))⟩
  f35 := ⟨Try.f72.name, by decide, Try.func72.trans (congrArg some (by kernel_rfl))⟩
  f40 := ⟨Try.f73.name, by decide, Try.func73.trans (congrArg some (by kernel_rfl))⟩
  t0 := Try.underlying0
  a0 := Try.isAgg0
  z0 := Try.sizeOf0
  v0 := Try.zeroValue0
  t3 := Try.underlying3
  a3 := Try.isAgg3
  z3 := Try.sizeOf3
  v3 := Try.zeroValue3
  t4 := Try.underlying4
  a4 := Try.isAgg4
  z4 := Try.sizeOf4
  v4 := Try.zeroValue4
  t5 := Try.underlying5
  a5 := Try.isAgg5
  z5 := Try.sizeOf5
  v5 := Try.zeroValue5
  t9 := Try.underlying9
  a9 := Try.isAgg9
  z9 := Try.sizeOf9
  v9 := Try.zeroValue9
  t22 := Try.underlying22
  a22 := Try.isAgg22
  z22 := Try.sizeOf22
  v22 := Try.zeroValue22
  t23 := Try.underlying22
  a23 := Try.isAgg22
  z23 := Try.sizeOf22
  v23 := Try.zeroValue22
  t25 := Try.underlying3
  a25 := Try.isAgg3
  z25 := Try.sizeOf3
  v25 := Try.zeroValue3
  t32 := Try.underlying124
  a32 := Try.isAgg124
  z32 := Try.sizeOf124
  v32 := Try.zeroValue124
  t35 := Try.underlying129
  a35 := Try.isAgg129
  z35 := Try.sizeOf129
  v35 := Try.zeroValue129
  t36 := Try.underlying130
  a36 := Try.isAgg130
  z36 := Try.sizeOf130
  v36 := Try.zeroValue130
  t41 := Try.underlying135
  a41 := Try.isAgg135
  z41 := Try.sizeOf135
  v41 := Try.zeroValue135
  t44 := Try.underlying138
  a44 := Try.isAgg138
  z44 := Try.sizeOf138
  v44 := Try.zeroValue138
  t46 := Try.underlying98
  a46 := Try.isAgg98
  z46 := Try.sizeOf98
  v46 := Try.zeroValue98
  t53 := Try.underlying140
  a53 := Try.isAgg140
  z53 := Try.sizeOf140
  v53 := Try.zeroValue140
  t57 := Try.underlying144
  a57 := Try.isAgg144
  z57 := Try.sizeOf144
  v57 := Try.zeroValue144
  t63 := Try.underlying146
  a63 := Try.isAgg146
  z63 := Try.sizeOf146
  v63 := Try.zeroValue146
  t64 := Try.underlying147
  a64 := Try.isAgg147
  z64 := Try.sizeOf147
  v64 := Try.zeroValue147 }
end Go.Proofs

set_option linter.unusedVariables false
namespace Go.Proofs
open Go.RowKit Go.Maps Go.Sort Go.Shelf
theorem Try.sortsL (m : Nat) : AnyZI.SortsIn Try.prog Try.sortedL_ren Fence.wide m :=
  ⟨fun blk off cap ss W hH hblk hsz => callsIn_wide.2 (AnyM.slices_Sort_int Try.sortL blk off cap ss W hH hblk hsz),
   fun p cap W => callsIn_wide.2 (AnyM.slices_Sort_int_none Try.sortL p cap W)⟩
theorem Try.keyCalls : Go.AM.KeyCalls Try.prog 20 36 3 3 := by
  intro w Bm b nn D hlt hcell hown hmax
  refine (callsIn_wide (n := 5)).1 ?_
  have hseq : SeqGives Fence.wide 2 Try.prog 36 #[.pointer (some ⟨Bm, 0, none⟩)] encZ (fun ss => ss.Perm (intKeys D)) (Maps.size D) w :=
    AnyZI.keys_gives (ρ := Try.keysL_ren) { Try.keysL with } Fence.wide _ trivial rfl (by omega) Bm b nn D w hlt hcell hown
  have cS := AnyZI.sorted_in Try.sortedL Fence.wide 5 trivial trivial trivial trivial rfl (by omega) (Try.sortsL _) (enters_of Try.func35 (by kernel_rfl) rfl) 36 #[.pointer (some ⟨Bm, 0, none⟩)] trivial (enters_of Try.func36 (by kernel_rfl) rfl) _ _ (Nat.le_trans hmax Go.AM.maxLen_big) (by omega) w hseq
  exact cS
end Go.Proofs
namespace Go.AM.Ytegibclhopenmaa
open Go Go.AM Go.Proofs
theorem ora_ok : CallOk Try.prog Ora.ora := oraKey_ok (P := Try.prog) (kt := 3) (it := 3) Try.underlying3 ⟨_, Try.func20, by kernel_rfl, by kernel_rfl⟩ Try.keyCalls
end Go.AM.Ytegibclhopenmaa
