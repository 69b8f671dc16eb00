/- YtfkpjnomfmjplaaUnseesA: runs of the law, by the kernel. -/
import Derived.Test.YtfkpjnomfmjplaaSane
namespace Go.Proofs.Ytfkpjnomfmjplaa.unseesRuns
open Go Go.Rc Go.Proofs sane
/-- the functions that are carried out -/
noncomputable def gs : List Nat := [3, 10, 11, 12, 13, 15, 16, 17, 18, 19, 21, 22, 28, 31, 38, 39, 40, 41, 42, 43, 44, 45, 46, 47, 48, 49, 50, 51, 52, 53, 54, 55, 56, 62, 64, 65, 66, 69, 70, 71, 72, 73, 74, 75, 76, 77, 80, 81]
noncomputable def some1 (i : Nat) : List V := (List.range (i + 1)).map fun j => a2 5 i (i + 1) j
theorem run0 : chkAll Try.prog o2 gs 1000 3 ((List.range 5).flatMap some1) = true := by kernel_rfl
end Go.Proofs.Ytfkpjnomfmjplaa.unseesRuns
