/- YtomgkmoecbnddaaSkewE: runs of the law, by the kernel. -/
import Derived.Test.YtomgkmoecbnddaaSkewA
namespace Go.Proofs.Ytomgkmoecbnddaa.skewRuns
open Go Go.Rc Go.Proofs sane
theorem run7x0 : chkAll Try.prog o2 gs 1000 4 ((List.range 2).flatMap fun q => row 7 (q + 0)) = true := by kernel_rfl
theorem run7x2 : chkAll Try.prog o2 gs 1000 4 ((List.range 2).flatMap fun q => row 7 (q + 2)) = true := by kernel_rfl
end Go.Proofs.Ytomgkmoecbnddaa.skewRuns
