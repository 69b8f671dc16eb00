/-
  'Rows.TxnManySaid' ('vintner/vintnerlaw13.TxnMany'): at any arguments the law answers true and lays at most new blocks.
  HOW: an interpreter of the model's code, proved sound (RcA to RdC), is run by the kernel at all rests of the arguments; the shell about the walk was written by program (proof-skeleton.mjs).
-/
import Derived.Test.YtfkpjnomfmjplaaRows
import Derived.WalkKit
import Derived.ProofKit
import Derived.OpenShut
import Derived.Test.YtfkpjnomfmjplaaRdD
import Derived.Test.YtfkpjnomfmjplaaManyA
import Derived.Test.YtfkpjnomfmjplaaManyB
import Derived.Test.YtfkpjnomfmjplaaManyC
namespace Go.Proofs.Ytfkpjnomfmjplaa.txnMany
open Go.ChangeShapes Go.WideShapes Go.ChangeAt Go.RowKit
set_option linter.unusedVariables false

theorem own : ownKnob Try.prog.godebug = none := by kernel_rfl

open Go.Rc manyRuns in
theorem every : ∀ (i : Nat), i < 21 → ∀ vals, RelL (fun _ => none) (args i) vals → ∀ w : World, Calls Try.prog 5 vals.toArray w fun e w' => e = .returned (.bool true) ∧ Grew w w' := fun i hi => by
  rcases (by omega : (i - 0 < 7 ∧ i - 0 + 0 = i) ∨ (i - 7 < 7 ∧ i - 7 + 7 = i) ∨ (i - 14 < 7 ∧ i - 14 + 14 = i)) with ⟨h0, h1⟩ | ⟨h0, h1⟩ | ⟨h0, h1⟩
  · exact chkAll_ok2 o3_ok run0 _ (List.mem_map.2 ⟨i - 0, List.mem_range.2 h0, by rw [h1]⟩)
  · exact chkAll_ok2 o3_ok run1 _ (List.mem_map.2 ⟨i - 7, List.mem_range.2 h0, by rw [h1]⟩)
  · exact chkAll_ok2 o3_ok run2 _ (List.mem_map.2 ⟨i - 14, List.mem_range.2 h0, by rw [h1]⟩)
/-! ### STEP 1: THE WALK: the Go text returns true. 'Grown w w'': the world has at most new blocks (Derived/RowKit3.lean). Part the cases AHEAD of 'go_enter' where a test parts the walk; take each callee by a contract of your own. -/
theorem walk (a0 : Int) (w0 : (Lit.int .i64 a0).wf = true) (w : World) :
    Calls Try.prog 5 #[.int .i64 a0] w fun e w' => e = .returned (.bool true) ∧ Go.Rc.Grew w w' := by
  have hn0 := Int.emod_nonneg a0 (b := 21) (by omega)
  have hl0 := Int.emod_lt_of_pos a0 (b := 21) (by omega)
  obtain ⟨i0, e0⟩ := Int.eq_ofNat_of_zero_le hn0
  exact every i0 (by omega) [.int .i64 a0] (.cons (.res e0) .nil) w

/-! ### THE ROW's STEP: WRITTEN OUT: LEAVE IT -/
set_option maxRecDepth 100000 in
theorem lifted (os : Os) (started : os.Started) (H : Type) (enc : TypeId × Value → H) :
    ReturnsInHanded {} Try.checked os 5 .any (Rows.txnManySpec.pre6 enc Try.prog Try.f5 Rows.txnManyRow.domain false) (Rows.txnManySpec.post enc Try.prog Try.f5 false true false false) := by
  refine returnsInHanded_of_change (C := Try.checked) own started (by kernel_rfl) Try.func5
    (ChangeSpec.witness6 (enc := enc) (C := Try.checked) false ⟨#[], #[.int .i64 0], []⟩ 8 (by kernel_rfl) (by kernel_rfl) (by kernel_rfl) (by kernel_rfl)) ?_
  intro W base args ds gs before hval0 hW hcnd _
  have hval : ∀ (j : Nat) t v, Try.f5.params[j]? = some t → args[j]? = some v → Value.okWide Try.prog W .any base t v := hval0
  have hW' := hW
  obtain ⟨p, q, hA0, hV, rfl, hfz, hnd⟩ := hW
  have hA : DataW.TrodAll enc Try.prog W 0 (fun _ => true) true Try.f5.params.toList args.toList ds p := hA0
  rw [Try.params5] at hA hval
  obtain ⟨v0, vs0, d0, ds0, p0, q0, hargs, rfl, rfl, h0, r0⟩ := trodAll_cons hA
  obtain ⟨rfl, rfl, rfl⟩ := trodAll_nil r0
  obtain rfl : args = #[v0] := by cases args; simp_all
  obtain ⟨rfl, rfl⟩ := trodVars_none hV
  obtain ⟨a0, rfl, rfl, rfl, w0⟩ := open_int Try.underlying3 (hval 0 3 v0 rfl rfl) h0
  clear hA0 hval0
  simp only [List.append_nil] at hW'
  refine (walk a0 w0 W).mono fun e W' ⟨he, hg⟩ => ?_
  subst he
  exact ⟨_, rfl, Go.Rc.post_grew (pa := []) (pv := []) hW' (fun _ => (trodAll_cons_mk (shut_bool Try.underlying4 _) trodAll_mk0)) (fun sp _ => (trodAll_cons_mk (shut_int Try.underlying3 w0) trodAll_mk0)) (fun _ => rfl) hg⟩

theorem over : Rows.txnManyRow.holds Try.pinned (OpenSpec.ofChange Rows.txnManySpec) :=
  OpenClaim.holds_of_wide 5 Try.f5 rfl rfl rfl rfl rfl rfl rfl ⟨rfl, rfl, rfl, rfl, rfl⟩ rfl rfl rfl rfl rfl (by kernel_rfl) Try.func5 (by kernel_rfl)
    (of_decide_eq_true (by kernel_rfl)) (by unfold Func.isWrapper; first | (rw [if_pos (by decide +kernel)]; kernel_rfl) | (rw [if_neg (by decide +kernel)]; exact ⟨rfl, rfl⟩))
    (fun os started H enc _ => lifted os started H enc)

/-- ████ THE STATEMENT ████ -/
theorem proved : Rows.TxnManySaid :=
  over
#print axioms proved
end Go.Proofs.Ytfkpjnomfmjplaa.txnMany
