/- YtfkpjnomfmjplaaRest: the contract of 'rest': the rest of any int modulo a small positive one. -/
import Derived.Test.YtfkpjnomfmjplaaChecked
import Derived.WalkKit
import Derived.Test.YtfkpjnomfmjplaaRdC
namespace Go.Proofs.Ytfkpjnomfmjplaa.rests
open Go.RowKit
theorem tmod_lo (z : Int) (m : Nat) (h : 0 < m) : -(m : Int) < z.tmod m := by
  rcases Int.le_total 0 z with hz | hz
  · have := Int.tmod_nonneg (m : Int) hz; omega
  · have h1 : (-z).tmod m < m := Int.tmod_lt_of_pos _ (by omega)
    rw [Int.neg_tmod] at h1; omega
theorem rest_val (z : Int) (m : Nat) (h0 : 0 < m) (h1 : m < 4294967296) : (wrap64 (z.tmod m + m)).tmod m = z % (m : Int) := by
  have h2 := Int.tmod_lt_of_pos z (b := m) (by omega)
  have h3 := tmod_lo z m h0
  have h4 : wrap64 (z.tmod m + m) = z.tmod m + m := by
    have := IntKind.wrap_i64 (z.tmod m + m)
    unfold wrap64 at *
    omega
  rw [h4, Int.tmod_eq_emod_of_nonneg (by omega)]
  have h5 : z.tmod m + (m : Int) = z + m * (1 - z.tdiv m) := by
    rw [Int.tmod_def, Int.mul_sub]; omega
  rw [h5, Int.add_mul_emod_self_left]
theorem restC (z : Int) (m : Nat) (w : World) (h0 : 0 < m) (h1 : m < 4294967296) : Calls Try.prog 14 #[.int .i64 z, .int .i64 m] w fun e w' => e = .returned (.int .i64 (z % (m : Int))) ∧ w'.heap = w.heap ∧ (w'.os, w'.output) = (w.os, w.output) := by
  have hne : (m : Int) ≠ 0 := by omega
  have e1 : IntKind.i64.wrap (z.tmod m) = z.tmod m := by
    have h2 := Int.tmod_lt_of_pos z (b := m) (by omega)
    have h3 := tmod_lo z m h0
    rw [IntKind.wrap_i64]; omega
  go_enter Try.func14, Try.ntmps14
  go_wp2
  go_ret
  refine ⟨?_, rfl, rfl⟩
  exact congrArg (fun u => Ending.returned (Value.int .i64 u)) (rest_val z m h0 h1)
theorem rest_name : (Try.f14.name == "runtime.NumGoroutine") = false := by kernel_rfl
open Go.Rc in
theorem orc : OrcOk Try.prog (orcRest (posOf 14)) := orcRest_ok Try.func14 rfl rest_name fun z m w h0 h1 => restC z m w h0 h1
end Go.Proofs.Ytfkpjnomfmjplaa.rests
