/- Locks: masks; keys of a map of ints. -/
import Derived.Test.YtbpioemenmahaaaD1
set_option linter.unusedVariables false
set_option linter.unusedSimpArgs false
set_option linter.unnecessarySimpa false
namespace Go.Proofs.Ytbpioemenmahaaa
open Go.Sym

theorem and7 (z : Int) : ∃ N : Int, bitsZ .and .i64 z 7 = N ∧ 0 ≤ N ∧ N ≤ 7 := by
  refine ⟨_, rfl, ?_⟩
  have h : (BitVec.ofInt IntKind.i64.bits z &&& BitVec.ofInt IntKind.i64.bits 7).toNat ≤ 7 := by
    rw [BitVec.toNat_and]
    exact Nat.le_trans Nat.and_le_right (by decide)
  unfold bitsZ
  simp only
  rw [wrap_nn (Nat.lt_of_le_of_lt h (by decide))]
  omega
theorem and_bound (z : Int) : ∃ N : Int, bitsZ .and .i64 z 65535 = N ∧ 0 ≤ N ∧ N ≤ 65535 := by
  refine ⟨_, rfl, ?_⟩
  have h : (BitVec.ofInt IntKind.i64.bits z &&& BitVec.ofInt IntKind.i64.bits 65535).toNat ≤ 65535 := by
    rw [BitVec.toNat_and]
    exact Nat.le_trans Nat.and_le_right (by decide)
  unfold bitsZ
  simp only
  rw [wrap_nn (Nat.lt_of_le_of_lt h (by decide))]
  omega
theorem setW_len (ws : List (Int × Int)) (t o : Int) : (setW ws t o).length ≤ ws.length + 1 := by
  unfold setW
  split <;> simp
theorem wv_nodup {ws : List (Int × Int)} {es : Array MapEntry} {c : Nat} (hM : MapOf (Value.int .i64) (wv ws) es c) : (ws.map (·.1)).Nodup := by have := hM.keys; rwa [wv_keys] at this
end Go.Proofs.Ytbpioemenmahaaa
