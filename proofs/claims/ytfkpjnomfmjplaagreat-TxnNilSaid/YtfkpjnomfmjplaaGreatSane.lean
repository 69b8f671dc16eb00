/- YtfkpjnomfmjplaaGreatSane: the sanity check of the chapter, run by the kernel; it is not carried out again. -/
import Derived.Test.YtfkpjnomfmjplaaGreatRest
import Derived.KernelRfl
namespace Go.Proofs.YtfkpjnomfmjplaaGreat.sane
open Go Go.Rc Go.Proofs
noncomputable def gs : List Nat := [6, 11, 25, 26, 27, 28, 29, 30, 31, 32, 42, 43, 44, 45, 48, 49, 53, 54, 57, 58, 59, 60, 61, 62, 63, 64, 65, 72, 73, 76, 77, 81, 95]
theorem run : chk Tryz.prog noOrc gs 1000 6 .n = true := by kernel_rfl
theorem name6 : (Tryz.f6.name == "runtime.NumGoroutine") = false := by kernel_rfl
theorem orc6 : OrcOk Tryz.prog (orcT (posOf 6)) := orcT_ok Tryz.func6 rfl name6 fun w => chk_ok2 noOrc_ok run .nil w
/-- rest and sanity -/
noncomputable def o2 : Orc := orcC (orcRest (posOf 9)) (orcT (posOf 6))
theorem o2_ok : OrcOk Tryz.prog o2 := orcC_ok rests.orc orc6
/-- ints, known by their rests -/
noncomputable def a1 (m i : Nat) : V := vCons (vRes m i) .n
noncomputable def a2 (m i n j : Nat) : V := vCons (vRes m i) (vCons (vRes n j) .n)
end Go.Proofs.YtfkpjnomfmjplaaGreat.sane
