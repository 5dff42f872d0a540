-- Written by xprint.py for this claim.
import Derived.Test.YtpfkhinbehegbaaProg
import Derived.Below
import Derived.Deep.Draws
import Derived.Deep.AppendLies
import Derived.Maps.AppendAt
import Derived.OwnWalk
import Derived.Laws.BytesArg
import Derived.Laws.MakeOwn
import Derived.Laws.OwnMore
import Derived.Deep.OwnRows
import Derived.Tactics
import Derived.Lib.ConvBytes
import Derived.Laws.Slices
import Derived.WalkKit
import Derived.KernelRfl
import Derived.RowKit3
import Derived.Deep.LoopGhost
import Derived.Deep.QuietTactic
import Derived.BigQuiet
import Derived.WideLaws
import Derived.Deep.DeepCutAuto
import Derived.Deep.CutBlock
import Derived.Deep.RegionHeld3
import Derived.Laws.Rows
import Derived.Lib.AppendStr
import Derived.ArgAppend
import Derived.Laws.IdiomCopy
import Derived.OrdersHeld
import Derived.Laws.BitsLemmas
import Derived.RowKit
import Derived.Test.YtpfkhinbehegbaaWWords
import Derived.Test.YtpfkhinbehegbaaWLast
import Derived.Test.YtpfkhinbehegbaaWTab
import Derived.Test.YtpfkhinbehegbaaWFour
import Derived.Test.YtpfkhinbehegbaaWQPut
import Derived.Test.YtpfkhinbehegbaaWApart
import Derived.Test.YtpfkhinbehegbaaWArr
import Derived.Test.YtpfkhinbehegbaaWZeros
import Derived.Test.YtpfkhinbehegbaaWFoot
import Derived.Test.YtpfkhinbehegbaaWKept
import Derived.Test.YtpfkhinbehegbaaWShare
import Derived.Test.YtpfkhinbehegbaaWN
import Derived.Test.YtpfkhinbehegbaaWFootNe
import Derived.Test.YtpfkhinbehegbaaWAt
import Derived.Test.YtpfkhinbehegbaaWEqStruct
import Derived.Test.YtpfkhinbehegbaaWRepsOne
import Derived.Test.YtpfkhinbehegbaaWInv
import Derived.Test.YtpfkhinbehegbaaWInvWords
import Derived.Test.YtpfkhinbehegbaaWGuard
import Derived.Test.YtpfkhinbehegbaaWNEv
import Derived.Test.YtpfkhinbehegbaaWMore
namespace Go.Proofs.Ytpfkhinbehegbaa.X
open Go.RowKit Go.Proofs.YtpfkhinbehegbaaW.PrintWords Go.Proofs.YtpfkhinbehegbaaW.PrintLast Go.Proofs.YtpfkhinbehegbaaW.PrintMore
attribute [local go_sem] max2_int min2_int max_two min_two max_three min_three max_four min_four   -- for this text's walks alone
set_option linter.unusedVariables false
set_option linter.unusedSimpArgs false



def errW : Option Int → Value
  | none => .nilIface
  | some c => .iface 0 (.int .i64 c)
theorem errW_none : errW none = .nilIface := rfl
theorem errW_some (c : Int) : errW (some c) = .iface 0 (.int .i64 c) := rfl

theorem info2 : (Try.prog.info? 2).map (fun i => (i.zero, i.size, i.bytes)) = some (some (.int .i64 0), 1, 8) := by kernel_rfl
-- the values' own types

end Go.Proofs.Ytpfkhinbehegbaa.X
