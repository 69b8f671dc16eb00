/- YtomgkmoecbnddaaSkewF: runs of the law, by the kernel. -/
import Derived.Test.YtomgkmoecbnddaaSkewA
namespace Go.Proofs.Ytomgkmoecbnddaa.skewRuns
open Go Go.Rc Go.Proofs sane
theorem run7x4 : chkAll Try.prog o2 gs 1000 4 ((List.range 2).flatMap fun q => row 7 (q + 4)) = true := by kernel_rfl
theorem run7x6 : chkAll Try.prog o2 gs 1000 4 ((List.range 2).flatMap fun q => row 7 (q + 6)) = true := by kernel_rfl
theorem run7x8 : chkAll Try.prog o2 gs 1000 4 ((List.range 1).flatMap fun q => row 7 (q + 8)) = true := by kernel_rfl
end Go.Proofs.Ytomgkmoecbnddaa.skewRuns
