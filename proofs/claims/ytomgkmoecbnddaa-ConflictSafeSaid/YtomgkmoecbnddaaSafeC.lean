/- YtomgkmoecbnddaaSafeC: runs of the law, by the kernel. -/
import Derived.Test.YtomgkmoecbnddaaSafeA
namespace Go.Proofs.Ytomgkmoecbnddaa.safeRuns
open Go Go.Rc Go.Proofs sane
theorem run4x0 : chkAll Try.prog o2 gs 1000 6 ((List.range 8).flatMap fun q => row 4 (q + 0)) = true := by kernel_rfl
theorem run4x8 : chkAll Try.prog o2 gs 1000 6 ((List.range 8).flatMap fun q => row 4 (q + 8)) = true := by kernel_rfl
end Go.Proofs.Ytomgkmoecbnddaa.safeRuns
