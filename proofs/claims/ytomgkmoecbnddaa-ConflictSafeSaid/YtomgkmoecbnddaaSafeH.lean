/- YtomgkmoecbnddaaSafeH: runs of the law, by the kernel. -/
import Derived.Test.YtomgkmoecbnddaaSafeA
namespace Go.Proofs.Ytomgkmoecbnddaa.safeRuns
open Go Go.Rc Go.Proofs sane
theorem run5x24 : chkAll Try.prog o2 gs 1000 6 ((List.range 4).flatMap fun q => row 5 (q + 24)) = true := by kernel_rfl
theorem run5x28 : chkAll Try.prog o2 gs 1000 6 ((List.range 4).flatMap fun q => row 5 (q + 28)) = true := by kernel_rfl
end Go.Proofs.Ytomgkmoecbnddaa.safeRuns
