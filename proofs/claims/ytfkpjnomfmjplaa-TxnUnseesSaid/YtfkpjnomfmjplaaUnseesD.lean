/- YtfkpjnomfmjplaaUnseesD: runs of the law, by the kernel. -/
import Derived.Test.YtfkpjnomfmjplaaUnseesA
namespace Go.Proofs.Ytfkpjnomfmjplaa.unseesRuns
open Go Go.Rc Go.Proofs
theorem run42 : chkAll Try.prog (orcRest (posOf 14)) gs 1000 3 [a2 5 4 5 2] = true := by kernel_rfl
theorem run43 : chkAll Try.prog (orcRest (posOf 14)) gs 1000 3 [a2 5 4 5 3] = true := by kernel_rfl
end Go.Proofs.Ytfkpjnomfmjplaa.unseesRuns
