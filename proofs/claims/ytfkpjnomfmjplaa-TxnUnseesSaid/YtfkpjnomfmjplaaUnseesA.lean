/- YtfkpjnomfmjplaaUnseesA: runs of the law, by the kernel. -/
import Derived.Test.YtfkpjnomfmjplaaRdC
import Derived.Test.YtfkpjnomfmjplaaProg
import Derived.KernelRfl
namespace Go.Proofs.Ytfkpjnomfmjplaa.unseesRuns
open Go Go.Rc Go.Proofs
/-- the functions that are reached -/
noncomputable def gs : List Nat := [3, 9, 10, 11, 12, 13, 14, 15, 16, 17, 18, 19, 20, 21, 22, 28, 31, 38, 39, 40, 41, 42, 43, 44, 45, 46, 47, 48, 49, 50, 51, 52, 53, 54, 55, 56, 62, 64, 65, 66, 69, 70, 71, 72, 73, 74, 75, 76, 77, 80, 81]
/-- two ints, known by their rests -/
noncomputable def a2 (m i n j : Nat) : V := vCons (vRes m i) (vCons (vRes n j) .n)
theorem runA : chkAll Try.prog (orcRest (posOf 14)) gs 1000 3 [a2 5 0 1 0, a2 5 1 2 0, a2 5 1 2 1, a2 5 2 3 0, a2 5 2 3 1, a2 5 2 3 2] = true := by kernel_rfl
end Go.Proofs.Ytfkpjnomfmjplaa.unseesRuns
