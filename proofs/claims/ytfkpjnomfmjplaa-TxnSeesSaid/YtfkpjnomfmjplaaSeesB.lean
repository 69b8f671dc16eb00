/- YtfkpjnomfmjplaaSeesB: runs of the law, by the kernel. -/
import Derived.Test.YtfkpjnomfmjplaaSeesA
namespace Go.Proofs.Ytfkpjnomfmjplaa.seesRuns
open Go Go.Rc Go.Proofs sane
theorem run1 : chkAll Try.prog o2 gs 1000 7 ((List.range 2).flatMap fun q => some1 (q + 2)) = true := by kernel_rfl
end Go.Proofs.Ytfkpjnomfmjplaa.seesRuns
