/- YtfkpjnomfmjplaaUnseesB: runs of the law, by the kernel. -/
import Derived.Test.YtfkpjnomfmjplaaUnseesA
namespace Go.Proofs.Ytfkpjnomfmjplaa.unseesRuns
open Go Go.Rc Go.Proofs
theorem runB : chkAll Try.prog (orcRest (posOf 14)) gs 1000 3 [a2 5 3 4 0, a2 5 3 4 1, a2 5 3 4 2, a2 5 3 4 3] = true := by kernel_rfl
end Go.Proofs.Ytfkpjnomfmjplaa.unseesRuns
