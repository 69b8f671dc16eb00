/- YtfkpjnomfmjplaaPreparedF: runs of the law, by the kernel. -/
import Derived.Test.YtfkpjnomfmjplaaPreparedA
namespace Go.Proofs.Ytfkpjnomfmjplaa.preparedRuns
open Go Go.Rc Go.Proofs sane
theorem run5 : chkAll Try.prog o2 gs 1000 8 ((List.range 1).flatMap fun q => some1 (q + 5)) = true := by kernel_rfl
end Go.Proofs.Ytfkpjnomfmjplaa.preparedRuns
