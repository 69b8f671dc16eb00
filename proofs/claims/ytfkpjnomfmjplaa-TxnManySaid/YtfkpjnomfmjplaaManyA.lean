/- YtfkpjnomfmjplaaManyA: runs of the law, by the kernel. -/
import Derived.Test.YtfkpjnomfmjplaaSane
import Derived.Test.YtfkpjnomfmjplaaS1
namespace Go.Proofs.Ytfkpjnomfmjplaa.manyRuns
open Go Go.Rc Go.Proofs sane
/-- rest, sanity and sorted -/
noncomputable def o3 : Orc := orcC o2 (orcKeys (posOf 63) 3 1 3)
theorem o3_ok : OrcOk Try.prog o3 := orcC_ok o2_ok orcSorted
/-- the functions that are carried out -/
noncomputable def gs : List Nat := [5, 10, 11, 15, 18, 26, 27, 31, 33, 38, 39, 40, 41, 43, 45, 46, 50, 51, 54, 59, 60, 62, 64, 65, 66, 70, 71, 75, 78, 80, 82, 84, 85, 95, 96, 97, 103, 115]
noncomputable def args (i : Nat) : V := (vCons (vRes 21 i) .n)
theorem run0 : chkAll Try.prog o3 gs 1000 5 ((List.range 7).map fun q => args (q + 0)) = true := by kernel_rfl
end Go.Proofs.Ytfkpjnomfmjplaa.manyRuns
