/- The law DiophantScales as a statement over numbers and lists. Written by row.py for this claim. -/
import Derived.Test.YtpfkhinbehegbaaTyX
import Derived.Test.YtpfkhinbehegbaaXx52
set_option linter.unusedVariables false
namespace Go.Proofs.Ytpfkhinbehegbaa.Say
open Go.RowKit Go.Proofs.YtpfkhinbehegbaaW.PrintWords Go.Proofs.Ytpfkhinbehegbaa.X Go.Proofs.Ytpfkhinbehegbaa.Ty
def DiophantScales : Prop := ∀ (a0_0 : Int) (a0_1 : Int) (a0_2 : Int) (a0_3 : Int) (a0_4 : Int) (a0_5 : Int) (a0_6 : Int) (a0_7 : Int) (a0_8 : Int) (a1 : Int), (Lit.int .i64 a0_0).wf = true → (Lit.int .i64 a0_1).wf = true → (Lit.int .i64 a0_2).wf = true → (Lit.int .i64 a0_3).wf = true → (Lit.int .i64 a0_4).wf = true → (Lit.int .i64 a0_5).wf = true → (Lit.int .i64 a0_6).wf = true → (Lit.int .i64 a0_7).wf = true → (Lit.int .i64 a0_8).wf = true → (Lit.int .i8 a1).wf = true → ∃ k, jacquardlaw24_DiophantScales.f k a0_0 a0_1 a0_2 a0_3 a0_4 a0_5 a0_6 a0_7 a0_8 a1 = some true
end Go.Proofs.Ytpfkhinbehegbaa.Say
