/- YtomgkmoecbnddaaSkewD: runs of the law, by the kernel. -/
import Derived.Test.YtomgkmoecbnddaaSkewA
namespace Go.Proofs.Ytomgkmoecbnddaa.skewRuns
open Go Go.Rc Go.Proofs sane
theorem run6x3 : chkAll Try.prog o2 gs 1000 4 ((List.range 3).flatMap fun q => row 6 (q + 3)) = true := by kernel_rfl
theorem run6x6 : chkAll Try.prog o2 gs 1000 4 ((List.range 2).flatMap fun q => row 6 (q + 6)) = true := by kernel_rfl
end Go.Proofs.Ytomgkmoecbnddaa.skewRuns
