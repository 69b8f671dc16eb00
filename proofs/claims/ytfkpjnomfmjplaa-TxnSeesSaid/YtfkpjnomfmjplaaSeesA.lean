/- YtfkpjnomfmjplaaSeesA: runs of the law, by the kernel. -/
import Derived.Test.YtfkpjnomfmjplaaSane
namespace Go.Proofs.Ytfkpjnomfmjplaa.seesRuns
open Go Go.Rc Go.Proofs sane
/-- the functions that are carried out -/
noncomputable def gs : List Nat := [7, 10, 11, 12, 13, 15, 16, 18, 19, 21, 22, 23, 26, 28, 31, 33, 38, 39, 40, 41, 42, 43, 44, 45, 46, 47, 50, 51, 52, 53, 54, 55, 56, 57, 59, 60, 62, 63, 64, 65, 66, 69, 70, 71, 72, 73, 74, 75, 76, 77, 78, 79, 80, 81, 82, 83, 84, 85, 86, 92, 95, 96, 97, 103, 111, 115]
noncomputable def args (i j k : Nat) : V := (vCons (vRes 4 i) (vCons (vBool (Nat.beq j 1)) (vCons (vRes 3 k) .n)))
noncomputable def some1 (i : Nat) : List V := (List.range 2).flatMap fun j => (List.range 3).map fun k => args i j k
theorem run0 : chkAll Try.prog o2 gs 1000 7 ((List.range 2).flatMap fun q => some1 (q + 0)) = true := by kernel_rfl
end Go.Proofs.Ytfkpjnomfmjplaa.seesRuns
