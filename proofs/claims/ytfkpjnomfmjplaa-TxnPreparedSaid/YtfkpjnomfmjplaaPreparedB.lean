/- YtfkpjnomfmjplaaPreparedB: runs of the law, by the kernel. -/
import Derived.Test.YtfkpjnomfmjplaaPreparedA
namespace Go.Proofs.Ytfkpjnomfmjplaa.preparedRuns
open Go Go.Rc Go.Proofs sane
theorem run1 : chkAll Try.prog o2 gs 1000 8 ((List.range 1).flatMap fun q => some1 (q + 1)) = true := by kernel_rfl
end Go.Proofs.Ytfkpjnomfmjplaa.preparedRuns
