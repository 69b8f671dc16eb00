/- YtomgkmoecbnddaaSafeK: runs of the law, by the kernel. -/
import Derived.Test.YtomgkmoecbnddaaSafeA
namespace Go.Proofs.Ytomgkmoecbnddaa.safeRuns
open Go Go.Rc Go.Proofs sane
theorem run5x48 : chkAll Try.prog o2 gs 1000 6 ((List.range 4).flatMap fun q => row 5 (q + 48)) = true := by kernel_rfl
theorem run5x52 : chkAll Try.prog o2 gs 1000 6 ((List.range 4).flatMap fun q => row 5 (q + 52)) = true := by kernel_rfl
theorem run5x56 : chkAll Try.prog o2 gs 1000 6 ((List.range 4).flatMap fun q => row 5 (q + 56)) = true := by kernel_rfl
theorem run5x60 : chkAll Try.prog o2 gs 1000 6 ((List.range 4).flatMap fun q => row 5 (q + 60)) = true := by kernel_rfl
end Go.Proofs.Ytomgkmoecbnddaa.safeRuns
