/- YtomgkmoecbnddaaSkewB: runs of the law, by the kernel. -/
import Derived.Test.YtomgkmoecbnddaaSkewA
namespace Go.Proofs.Ytomgkmoecbnddaa.skewRuns
open Go Go.Rc Go.Proofs sane
theorem run4x0 : chkAll Try.prog o2 gs 1000 4 ((List.range 6).flatMap fun q => row 4 (q + 0)) = true := by kernel_rfl
theorem run5x0 : chkAll Try.prog o2 gs 1000 4 ((List.range 4).flatMap fun q => row 5 (q + 0)) = true := by kernel_rfl
end Go.Proofs.Ytomgkmoecbnddaa.skewRuns
