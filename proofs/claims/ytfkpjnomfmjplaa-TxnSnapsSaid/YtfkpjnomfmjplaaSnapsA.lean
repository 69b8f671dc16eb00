/- YtfkpjnomfmjplaaSnapsA: runs of the law, by the kernel. -/
import Derived.Test.YtfkpjnomfmjplaaSane
namespace Go.Proofs.Ytfkpjnomfmjplaa.snapsRuns
open Go Go.Rc Go.Proofs sane
/-- the functions that are carried out -/
noncomputable def gs : List Nat := [4, 10, 11, 13, 18, 19, 20, 21, 22, 23, 24, 25, 31, 38, 39, 40, 41, 42, 43, 44, 45, 50, 51, 52, 53, 54, 55, 56, 57, 58, 62, 64, 65, 66, 69, 70, 71, 72, 75, 76, 77, 80]
noncomputable def args (i j : Nat) : V := (vCons (vRes 6 i) (vCons (vRes 7 j) .n))
noncomputable def some1 (i : Nat) : List V := (List.range 7).map fun j => args i j
theorem run0 : chkAll Try.prog o2 gs 1000 4 ((List.range 3).flatMap fun q => some1 (q + 0)) = true := by kernel_rfl
end Go.Proofs.Ytfkpjnomfmjplaa.snapsRuns
