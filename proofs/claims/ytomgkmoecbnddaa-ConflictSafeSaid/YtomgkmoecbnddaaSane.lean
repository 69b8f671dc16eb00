/- YtomgkmoecbnddaaSane: the sanity check of the chapter, run by the kernel; it is not carried out again. -/
import Derived.Test.YtomgkmoecbnddaaC3
import Derived.KernelRfl
namespace Go.Proofs.Ytomgkmoecbnddaa.sane
open Go Go.Rc Go.Proofs
noncomputable def gs : List Nat := [9, 10, 12, 13, 14, 15, 16, 17, 29, 30, 32, 33, 34, 35, 37, 38, 51, 52]
/-- keys and forget -/
noncomputable def o1 : Orc := orcC (orcMapKeys (posOf 31) 3) (orcForget (posOf 36))
theorem o1_ok : OrcOk Try.prog o1 := orcC_ok orcKeys31 orcForget_ok
theorem run : chk Try.prog o1 gs 1000 9 .n = true := by kernel_rfl
theorem name9 : (Try.f9.name == "runtime.NumGoroutine") = false := by kernel_rfl
theorem orc9 : OrcOk Try.prog (orcT (posOf 9)) := orcT_ok Try.func9 rfl name9 fun w => chk_ok2 o1_ok run .nil w
/-- keys, forget and sanity -/
noncomputable def o2 : Orc := orcC o1 (orcT (posOf 9))
theorem o2_ok : OrcOk Try.prog o2 := orcC_ok o1_ok orc9
end Go.Proofs.Ytomgkmoecbnddaa.sane
