/- YtomgkmoecbnddaaSafeA: runs of the law, by the kernel. -/
import Derived.Test.YtomgkmoecbnddaaSane
namespace Go.Proofs.Ytomgkmoecbnddaa.safeRuns
open Go Go.Rc Go.Proofs sane
/-- the functions that are carried out -/
noncomputable def gs : List Nat := [6, 10, 12, 13, 14, 15, 16, 17, 18, 29, 30, 32, 33, 34, 35, 37, 38, 51, 52]
noncomputable def args (i j k : Nat) : V := vCons (vNum 4 6 i 256) (vCons (vNum 4 (2 ^ (i + 1)) j 256) (vCons (vNum 4 8 k 256) .n))
noncomputable def row (i j : Nat) : List V := (List.range (8)).map fun k => args i j k
theorem run0x0 : chkAll Try.prog o2 gs 1000 6 ((List.range 2).flatMap fun q => row 0 (q + 0)) = true := by kernel_rfl
theorem run1x0 : chkAll Try.prog o2 gs 1000 6 ((List.range 4).flatMap fun q => row 1 (q + 0)) = true := by kernel_rfl
theorem run2x0 : chkAll Try.prog o2 gs 1000 6 ((List.range 8).flatMap fun q => row 2 (q + 0)) = true := by kernel_rfl
end Go.Proofs.Ytomgkmoecbnddaa.safeRuns
