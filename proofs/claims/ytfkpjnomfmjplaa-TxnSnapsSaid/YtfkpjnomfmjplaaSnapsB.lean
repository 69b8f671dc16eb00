/- YtfkpjnomfmjplaaSnapsB: runs of the law, by the kernel. -/
import Derived.Test.YtfkpjnomfmjplaaSnapsA
namespace Go.Proofs.Ytfkpjnomfmjplaa.snapsRuns
open Go Go.Rc Go.Proofs sane
theorem run1 : chkAll Try.prog o2 gs 1000 4 ((List.range 3).flatMap fun q => some1 (q + 3)) = true := by kernel_rfl
end Go.Proofs.Ytfkpjnomfmjplaa.snapsRuns
