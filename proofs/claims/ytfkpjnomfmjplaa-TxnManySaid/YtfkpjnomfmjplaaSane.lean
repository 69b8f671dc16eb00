/- YtfkpjnomfmjplaaSane: the sanity check of the chapter, run by the kernel; it is not carried out again. -/
import Derived.Test.YtfkpjnomfmjplaaRest
import Derived.KernelRfl
namespace Go.Proofs.Ytfkpjnomfmjplaa.sane
open Go Go.Rc Go.Proofs
noncomputable def gs : List Nat := [9, 10, 11, 13, 15, 17, 18, 20, 28, 38, 39, 40, 41, 42, 43, 44, 45, 46, 48, 49, 50, 51, 54, 62, 64, 65, 66, 69, 70, 71, 72, 75, 80]
theorem run : chk Try.prog noOrc gs 1000 9 .n = true := by kernel_rfl
theorem name9 : (Try.f9.name == "runtime.NumGoroutine") = false := by kernel_rfl
theorem orc9 : OrcOk Try.prog (orcT (posOf 9)) := orcT_ok Try.func9 rfl name9 fun w => chk_ok2 noOrc_ok run .nil w
/-- rest and sanity -/
noncomputable def o2 : Orc := orcC (orcRest (posOf 14)) (orcT (posOf 9))
theorem o2_ok : OrcOk Try.prog o2 := orcC_ok rests.orc orc9
/-- ints, known by their rests -/
noncomputable def a1 (m i : Nat) : V := vCons (vRes m i) .n
noncomputable def a2 (m i n j : Nat) : V := vCons (vRes m i) (vCons (vRes n j) .n)
end Go.Proofs.Ytfkpjnomfmjplaa.sane
