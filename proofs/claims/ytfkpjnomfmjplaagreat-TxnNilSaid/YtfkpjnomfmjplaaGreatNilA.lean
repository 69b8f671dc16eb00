/- YtfkpjnomfmjplaaGreatNilA: runs of the law, by the kernel. -/
import Derived.Test.YtfkpjnomfmjplaaGreatSane
namespace Go.Proofs.YtfkpjnomfmjplaaGreat.nilRuns
open Go Go.Rc Go.Proofs sane
/-- the functions that are carried out -/
noncomputable def gs : List Nat := [5, 10, 12, 13, 14, 15, 16, 19, 21, 22, 23, 24, 26, 27, 28, 30, 31, 36, 37, 38, 39, 40, 41, 42, 44, 45, 46, 48, 49, 50, 51, 52, 53, 54, 55, 56, 57, 58, 59, 60, 61, 62, 63, 64, 67, 68, 69, 70, 71, 73, 74, 76, 77, 79, 80, 81, 82, 83, 84, 90, 93, 94, 95, 96, 102, 107, 110, 114]
/-- a call: its kind and its number known by their rests, the others not at all -/
noncomputable def args (i j : Nat) : V := vCons (vAgg (vCons (vRes 16 i) (vCons vAny (vCons (vRes 4 j) (vCons vAny (vCons vAny .n)))))) .n
theorem run0 : chkAll Tryz.prog o2 gs 1000 5 ((List.range 16).flatMap fun i => (List.range 4).map fun j => args i j) = true := by kernel_rfl
end Go.Proofs.YtfkpjnomfmjplaaGreat.nilRuns
