/- Proved: whatever a and b, Gcd returns the greatest common divisor of the limited numbers as a combination of both with small factors. No condition. -/
import Derived.Test.YtpfkhinbehegbaaM1
namespace Go.Proofs.Ytpfkhinbehegbaa.Pure
open Go.RowKit Go.Proofs.Ytpfkhinbehegbaa.X Go.Proofs.YtpfkhinbehegbaaW.PrintWords Go.Proofs.YtpfkhinbehegbaaW.PrintLast

theorem DiophantGcd : jacquardlaw24_DiophantGcd.Pure := gcd_law

end Go.Proofs.Ytpfkhinbehegbaa.Pure
