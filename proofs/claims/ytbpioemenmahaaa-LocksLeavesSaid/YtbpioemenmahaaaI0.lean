/- Locks: small things for the walks: calls as an argument, cells of tables. -/
import Derived.Test.YtbpioemenmahaaaH5
import Derived.Test.YtbpioemenmahaaaH4
import Derived.Test.YtbpioemenmahaaaI2
set_option linter.unusedVariables false
set_option linter.unusedSimpArgs false
set_option linter.unnecessarySimpa false
namespace Go.Proofs.Ytbpioemenmahaaa
open Go.Sym

theorem hcells_at {S : List Lk} : ∀ {ts : List Tgt} {j : Nat} (_ : j < ts.length) (q : Nat) (_ : q < 6), (hcells S ts)[j * 6 + q]? = some (.bool (hasT S (q : Int) (ts[j])))
  | t :: ts, 0, _, q, hq => by
    unfold hcells
    rw [List.flatMap_cons, Nat.zero_mul, Nat.zero_add, List.getElem?_append_left (by simpa [hrow] using hq)]
    match q, hq with
    | 0, _ => rfl
    | 1, _ => rfl
    | 2, _ => rfl
    | 3, _ => rfl
    | 4, _ => rfl
    | 5, _ => rfl
  | t :: ts, j + 1, h, q, hq => by
    have ih := hcells_at (S := S) (ts := ts) (j := j) (by simpa using h) q hq
    unfold hcells at ih ⊢
    rw [List.flatMap_cons, List.getElem?_append_right (by simp [hrow]; omega)]
    have e : (j + 1) * 6 + q - (hrow S t).length = j * 6 + q := by simp [hrow]; omega
    rw [e, ih]
    simp
theorem wf_small {z : Int} (h : 1 ≤ z ∧ z ≤ 5) : (Lit.int .i64 z).wf = true := by
  have : z = 1 ∨ z = 2 ∨ z = 3 ∨ z = 4 ∨ z = 5 := by omega
  rcases this with rfl | rfl | rfl | rfl | rfl <;> rfl
/-- an argument: a slice of calls -/
def CallsIn (o : Option Addr) (len : Nat) (P0 : List Blk) : Prop :=
  0 < len → ∃ (bb off : Nat) (cl : List Value) (T : TypeId) (fz : Nat × Nat), o = some ⟨bb, off, none⟩ ∧ ((bb, Obj.cells cl.toArray T fz) : Blk) ∈ P0 ∧ ∀ q j, q < len → j < 7 → ∃ z : Int, cl[off + q * 7 + j]? = some (.int .i64 z)
end Go.Proofs.Ytbpioemenmahaaa
