/- YtfkpjnomfmjplaaManyB: runs of the law, by the kernel. -/
import Derived.Test.YtfkpjnomfmjplaaManyA
namespace Go.Proofs.Ytfkpjnomfmjplaa.manyRuns
open Go Go.Rc Go.Proofs sane
theorem run1 : chkAll Try.prog o3 gs 1000 5 ((List.range 7).map fun q => args (q + 7)) = true := by kernel_rfl
end Go.Proofs.Ytfkpjnomfmjplaa.manyRuns
