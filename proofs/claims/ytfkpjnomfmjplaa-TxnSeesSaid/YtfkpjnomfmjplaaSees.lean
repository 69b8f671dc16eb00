/-
  'Rows.TxnSeesSaid' ('vintner/vintnerlaw13.TxnSees'): at any arguments the law answers true and lays at most new blocks.
  HOW: an interpreter of the model's code, proved sound (RcA to RdC), is run by the kernel at all rests of the arguments; the shell about the walk was written by program (proof-skeleton.mjs).
-/
import Derived.Test.YtfkpjnomfmjplaaRows
import Derived.WalkKit
import Derived.ProofKit
import Derived.OpenShut
import Derived.Test.YtfkpjnomfmjplaaSeesA
import Derived.Test.YtfkpjnomfmjplaaSeesB
namespace Go.Proofs.Ytfkpjnomfmjplaa.txnSees
open Go.ChangeShapes Go.WideShapes Go.ChangeAt Go.RowKit
set_option linter.unusedVariables false

theorem own : ownKnob Try.prog.godebug = none := by kernel_rfl

open Go.Rc in
theorem relBool {σ : Sg} {b : Bool} {i : Nat} (e : b = Nat.beq i 1) : Rel σ (vBool (Nat.beq i 1)) (.bool b) := by
  subst e; cases Nat.beq i 1 <;> exact .bool rfl
open Go.Rc seesRuns in
theorem every : ∀ (i j k : Nat), i < 4 → j < 2 → k < 3 → ∀ vals, RelL (fun _ => none) (args i j k) vals → ∀ w : World, Calls Try.prog 7 vals.toArray w fun e w' => e = .returned (.bool true) ∧ Grown w w' := fun i j k hi hj hk => by
  rcases (by omega : (i - 0 < 2 ∧ i - 0 + 0 = i) ∨ (i - 2 < 2 ∧ i - 2 + 2 = i)) with ⟨h0, h1⟩ | ⟨h0, h1⟩
  · exact chkAll_ok sane.o2_ok run0 _ (List.mem_flatMap.2 ⟨i - 0, List.mem_range.2 h0, by rw [h1]; exact List.mem_flatMap.2 ⟨j, List.mem_range.2 hj, List.mem_map.2 ⟨k, List.mem_range.2 hk, rfl⟩⟩⟩)
  · exact chkAll_ok sane.o2_ok run1 _ (List.mem_flatMap.2 ⟨i - 2, List.mem_range.2 h0, by rw [h1]; exact List.mem_flatMap.2 ⟨j, List.mem_range.2 hj, List.mem_map.2 ⟨k, List.mem_range.2 hk, rfl⟩⟩⟩)
/-! ### STEP 1: THE WALK: the Go text returns true. 'Grown w w'': the world has at most new blocks (Derived/RowKit3.lean). Part the cases AHEAD of 'go_enter' where a test parts the walk; take each callee by a contract of your own. -/
theorem walk (a0 : Int) (a1 : Bool) (a2 : Int) (w0 : (Lit.int .i64 a0).wf = true) (w2 : (Lit.int .i64 a2).wf = true) (w : World) :
    Calls Try.prog 7 #[.int .i64 a0, .bool a1, .int .i64 a2] w fun e w' => e = .returned (.bool true) ∧ Grown w w' := by
  have hn0 := Int.emod_nonneg a0 (b := 4) (by omega)
  have hl0 := Int.emod_lt_of_pos a0 (b := 4) (by omega)
  obtain ⟨i0, e0⟩ := Int.eq_ofNat_of_zero_le hn0
  obtain ⟨i1, hb1, eb1⟩ : ∃ i : Nat, i < 2 ∧ a1 = Nat.beq i 1 := match a1 with
    | false => ⟨0, by omega, rfl⟩
    | true => ⟨1, by omega, rfl⟩
  have hn2 := Int.emod_nonneg a2 (b := 3) (by omega)
  have hl2 := Int.emod_lt_of_pos a2 (b := 3) (by omega)
  obtain ⟨i2, e2⟩ := Int.eq_ofNat_of_zero_le hn2
  exact every i0 i1 i2 (by omega) (by omega) (by omega) [.int .i64 a0, .bool a1, .int .i64 a2] (.cons (.res e0) (.cons (relBool eb1) (.cons (.res e2) .nil))) w

/-! ### THE ROW's STEP: WRITTEN OUT: LEAVE IT -/
set_option maxRecDepth 100000 in
theorem lifted (os : Os) (started : os.Started) (H : Type) (enc : TypeId × Value → H) :
    ReturnsInHanded {} Try.checked os 7 .any (Rows.txnSeesSpec.pre6 enc Try.prog Try.f7 Rows.txnSeesRow.domain false) (Rows.txnSeesSpec.post enc Try.prog Try.f7 false true false false) := by
  refine returnsInHanded_of_change (C := Try.checked) own started (by kernel_rfl) Try.func7
    (ChangeSpec.witness6 (enc := enc) (C := Try.checked) false ⟨#[], #[.int .i64 0, .bool false, .int .i64 0], []⟩ 8 (by kernel_rfl) (by kernel_rfl) (by kernel_rfl) (by kernel_rfl)) ?_
  intro W base args ds gs before hval0 hW hcnd _
  have hval : ∀ (j : Nat) t v, Try.f7.params[j]? = some t → args[j]? = some v → Value.okWide Try.prog W .any base t v := hval0
  have hW' := hW
  obtain ⟨p, q, hA0, hV, rfl, hfz, hnd⟩ := hW
  have hA : DataW.TrodAll enc Try.prog W 0 (fun _ => true) true Try.f7.params.toList args.toList ds p := hA0
  rw [Try.params7] at hA hval
  obtain ⟨v0, vs0, d0, ds0, p0, q0, hargs, rfl, rfl, h0, r0⟩ := trodAll_cons hA
  obtain ⟨v1, vs1, d1, ds1, p1, q1, rfl, rfl, rfl, h1, r1⟩ := trodAll_cons r0
  obtain ⟨v2, vs2, d2, ds2, p2, q2, rfl, rfl, rfl, h2, r2⟩ := trodAll_cons r1
  obtain ⟨rfl, rfl, rfl⟩ := trodAll_nil r2
  obtain rfl : args = #[v0, v1, v2] := by cases args; simp_all
  obtain ⟨rfl, rfl⟩ := trodVars_none hV
  obtain ⟨a0, rfl, rfl, rfl, w0⟩ := open_int Try.underlying3 (hval 0 3 v0 rfl rfl) h0
  obtain ⟨a1, rfl, rfl, rfl⟩ := open_bool Try.underlying4 (hval 1 4 v1 rfl rfl) h1
  obtain ⟨a2, rfl, rfl, rfl, w2⟩ := open_int Try.underlying3 (hval 2 3 v2 rfl rfl) h2
  clear hA0 hval0
  simp only [List.append_nil] at hW'
  refine (walk a0 a1 a2 w0 w2 W).mono fun e W' ⟨he, hg⟩ => ?_
  subst he
  exact ⟨_, rfl, post_of_same (pa := []) (pv := []) hW' (fun _ _ _ => (trodAll_cons_mk (shut_bool Try.underlying4 _) trodAll_mk0)) (fun sp _ => (trodAll_cons_mk (shut_int Try.underlying3 w0) (trodAll_cons_mk (shut_bool Try.underlying4 _) (trodAll_cons_mk (shut_int Try.underlying3 w2) trodAll_mk0)))) (fun _ _ => rfl) rfl
    (hg.frame _) hg.2.1 (ok_one (by kernel_rfl) rfl (okWide_bool_mk Try.underlying4 _))⟩

theorem over : Rows.txnSeesRow.holds Try.pinned (OpenSpec.ofChange Rows.txnSeesSpec) :=
  OpenClaim.holds_of_wide 7 Try.f7 rfl rfl rfl rfl rfl rfl rfl ⟨rfl, rfl, rfl, rfl, rfl⟩ rfl rfl rfl rfl rfl (by kernel_rfl) Try.func7 (by kernel_rfl)
    (of_decide_eq_true (by kernel_rfl)) (by unfold Func.isWrapper; first | (rw [if_pos (by decide +kernel)]; kernel_rfl) | (rw [if_neg (by decide +kernel)]; exact ⟨rfl, rfl⟩))
    (fun os started H enc _ => lifted os started H enc)

/-- ████ THE STATEMENT ████ -/
theorem proved : Rows.TxnSeesSaid :=
  over
#print axioms proved
end Go.Proofs.Ytfkpjnomfmjplaa.txnSees
