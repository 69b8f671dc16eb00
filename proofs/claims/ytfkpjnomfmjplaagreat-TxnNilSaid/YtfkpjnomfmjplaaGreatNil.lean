/-
  'Rows.TxnNilSaid' ('vintner/vintnerlaw13.TxnNil'): at any call the law answers true, lays at most new blocks, and the call reads as it did.
  HOW: an interpreter of the model's code, proved sound (RcA to RdD), is run by the kernel at all rests of the call's kind (modulo 16) and number (modulo 4); the call's other parts are not looked at.
-/
import Derived.Test.YtfkpjnomfmjplaaGreatRows
import Derived.WalkKit
import Derived.ProofKit
import Derived.OpenShut
import Derived.Test.YtfkpjnomfmjplaaGreatNilA
import Derived.Test.YtfkpjnomfmjplaaGreatRdD
namespace Go.Proofs.YtfkpjnomfmjplaaGreat.txnNil
open Go.ChangeShapes Go.WideShapes Go.ChangeAt Go.RowKit
set_option linter.unusedVariables false

theorem own : ownKnob Tryz.prog.godebug = none := by kernel_rfl
theorem laid : laidOutB Tryz.prog = true := by kernel_rfl
theorem cells34 : Tryz.prog.cellsOf 34 = [3, 3, 3, 9, 32].length := by kernel_rfl
theorem types34 : Tryz.prog.cellTypes Tryz.prog.depth 34 = some [3, 3, 3, 9, 32] := by kernel_rfl
theorem reads34 : Tryz.prog.readableRec 34 = true := by kernel_rfl
theorem row34 : 34 < Tryz.prog.types.size := of_decide_eq_true (by kernel_rfl)
set_option maxRecDepth 100000 in
open Go.Rc nilRuns in
theorem every : ∀ (i j : Nat), i < 16 → j < 4 → ∀ vals, RelL (fun _ => none) (args i j) vals → ∀ w : World, Calls Tryz.prog 5 vals.toArray w fun e w' => e = .returned (.bool true) ∧ Grew w w' := fun i j hi hj =>
  chkAll_ok2 sane.o2_ok run0 (args i j) (List.mem_flatMap.2 ⟨i, List.mem_range.2 hi, List.mem_map.2 ⟨j, List.mem_range.2 hj, rfl⟩⟩)
set_option maxRecDepth 100000 in
open Go.Rc in
theorem walk (v0 : Value) (b : Nat) (w1 : World) (hv : Value.okWide Tryz.prog w1 .any b 34 v0) (w : World) : Calls Tryz.prog 5 #[v0] w fun e w' => e = .returned (.bool true) ∧ Grew w w' := by
  have hsc := @struct_cells Tryz.prog w1 .any b 34 v0 _ [3, 3, 3, 9, 32] Tryz.underlying34 types34 cells34 hv
  obtain ⟨cl, hcl, hlen, hc⟩ := hsc
  subst hcl
  match cl, hlen, hc with
  | [c0, c1, c2, c3, c4], _, hc =>
    obtain ⟨i, hi, r0⟩ := rel_rest (σ := fun _ => none) (m := 16) (by omega) Tryz.underlying3 (hc 0 c0 3 rfl rfl)
    obtain ⟨j, hj, r2⟩ := rel_rest (σ := fun _ => none) (m := 4) (by omega) Tryz.underlying3 (hc 2 c2 3 rfl rfl)
    exact every i j hi hj [.agg #[c0, c1, c2, c3, c4]] (.cons (.agg (.cons r0 (.cons (rel_any (hc 1 c1 3 rfl rfl)) (.cons r2 (.cons (rel_any (hc 3 c3 9 rfl rfl)) (.cons (rel_any (hc 4 c4 32 rfl rfl)) .nil)))))) .nil) w

set_option maxRecDepth 100000 in
theorem lifted (os : Os) (started : os.Started) (H : Type) (enc : TypeId × Value → H) :
    ReturnsInHanded {} Tryz.checked os 5 .any (Rows.txnNilSpec.pre6 enc Tryz.prog Tryz.f5 Rows.txnNilRow.domain false) (Rows.txnNilSpec.post enc Tryz.prog Tryz.f5 false true false false) := by
  refine returnsInHanded_of_change (C := Tryz.checked) own started (by kernel_rfl) Tryz.func5
    (ChangeSpec.witness6 (enc := enc) (C := Tryz.checked) false ⟨#[], #[.agg #[.int .i64 0, .int .i64 0, .int .i64 0, .string .empty, .slice none 0 0]], []⟩ 8 (by kernel_rfl) (by kernel_rfl) (by kernel_rfl) (by kernel_rfl)) ?_
  intro W base args ds gs before hval0 hW hcnd _
  have hval : ∀ (j : Nat) t v, Tryz.f5.params[j]? = some t → args[j]? = some v → Value.okWide Tryz.prog W .any base t v := hval0
  have hW' := hW
  obtain ⟨p, q, hA0, hV, rfl, hfz, hnd⟩ := hW
  have hA : DataW.TrodAll enc Tryz.prog W 0 (fun _ => true) true Tryz.f5.params.toList args.toList ds p := hA0
  have hAk := hA
  rw [Tryz.params5] at hA hval
  obtain ⟨v0, vs0, d0, ds0, p0, q0, hargs, rfl, rfl, h0, r0⟩ := trodAll_cons hA
  obtain ⟨rfl, rfl, rfl⟩ := trodAll_nil r0
  obtain rfl : args = #[v0] := by cases args; simp_all
  obtain ⟨rfl, rfl⟩ := trodVars_none hV
  have hlt : ∀ x ∈ p0 ++ [], x.block < W.heap.size := fun x hx => by simpa using hW'.lt x (List.mem_append_left _ hx)
  refine (walk v0 base W (hval 0 34 v0 rfl rfl) W).mono fun e W' ⟨he, hg⟩ => ?_
  subst he
  exact ⟨_, rfl, post_of_same (pa := p0 ++ []) (pv := []) hW' (fun _ _ _ => (trodAll_cons_mk (shut_bool Tryz.underlying4 _) trodAll_mk0))
    (fun sp hs => Go.Rc.args_again laid hg hAk (fun t ht => by rw [Tryz.params5] at ht; simp at ht; subst ht; exact ⟨reads34, row34⟩) hlt sp fun x hx => hs x (List.mem_append_left _ hx)) (fun _ _ => rfl) rfl
    (hg.grown.frame _) hg.grown.2.1 (ok_one (by kernel_rfl) rfl (okWide_bool_mk Tryz.underlying4 _))⟩

theorem over : Rows.txnNilRow.holds Tryz.pinned (OpenSpec.ofChange Rows.txnNilSpec) :=
  OpenClaim.holds_of_wide 5 Tryz.f5 rfl rfl rfl rfl rfl rfl rfl ⟨rfl, rfl, rfl, rfl, rfl⟩ rfl rfl rfl rfl rfl (by kernel_rfl) Tryz.func5 (by kernel_rfl)
    (of_decide_eq_true (by kernel_rfl)) (by unfold Func.isWrapper; first | (rw [if_pos (by decide +kernel)]; kernel_rfl) | (rw [if_neg (by decide +kernel)]; exact ⟨rfl, rfl⟩))
    (fun os started H enc _ => lifted os started H enc)

/-- ████ THE STATEMENT ████ -/
theorem proved : Rows.TxnNilSaid :=
  over
#print axioms proved
end Go.Proofs.YtfkpjnomfmjplaaGreat.txnNil
