/-
  'Rows.LocksLeavesSaid' ('vintner/vintnerlaw11.LocksLeaves'): at any arguments the law answers true, lays at most new blocks, and the arguments read as they did. HOW: contracts of each function over named blocks (Sym and its like); the lock table as a list of locks; what Split and Merge do to those that hold a leaf, and why a hundred locks are enough for forty calls (L1); the walk (L3) with the sanity check (D1).
-/
import Derived.Test.YtbpioemenmahaaaRows
import Derived.WalkKit
import Derived.ProofKit
import Derived.OpenShut
import Derived.Test.YtbpioemenmahaaaFin
import Derived.Test.YtbpioemenmahaaaK0
import Derived.Test.YtbpioemenmahaaaI4
import Derived.Test.YtbpioemenmahaaaL3
namespace Go.Proofs.Ytbpioemenmahaaa.locksLeaves
open Go.ChangeShapes Go.WideShapes Go.ChangeAt Go.RowKit
set_option linter.unusedVariables false

theorem own : ownKnob Try.prog.godebug = none := by kernel_rfl
theorem laid : laidOutB Try.prog = true := by kernel_rfl
theorem reads45 : Try.prog.readableRec 45 = true := by kernel_rfl
theorem row45 : 45 < Try.prog.types.size := of_decide_eq_true (by kernel_rfl)
set_option maxRecDepth 100000 in
open Go.Sym in
theorem walk {H : Type} {enc : TypeId × Value → H} {d0 : DataW H} {p0 : List MemPlace} (v0 : Value) (b : Nat) (W : World) (hv0 : Value.okWide Try.prog W .any b 45 v0) (h0 : DataW.Trod enc Try.prog W 0 (fun _ => true) true 45 v0 d0 p0) :
    Calls Try.prog 11 #[v0] W fun e w' => e = .returned (.bool true) ∧ Grew W w' :=
  walk_calls (g := 11) (fun v => #[v]) hv0 h0 fun o len cap P0 hl hC => leaves_tri hl hC

set_option maxRecDepth 100000 in
theorem lifted (os : Os) (started : os.Started) (H : Type) (enc : TypeId × Value → H) :
    ReturnsInHanded {} Try.checked os 11 .any (Rows.locksLeavesSpec.pre6 enc Try.prog Try.f11 Rows.locksLeavesRow.domain false) (Rows.locksLeavesSpec.post enc Try.prog Try.f11 false true false false) := by
  refine returnsInHanded_of_change (C := Try.checked) own started (by kernel_rfl) Try.func11
    (ChangeSpec.witness6 (enc := enc) (C := Try.checked) false ⟨#[], #[.slice none 0 0], []⟩ 8 (by kernel_rfl) (by kernel_rfl) (by kernel_rfl) (by kernel_rfl)) ?_
  intro W base args ds gs before hval0 hW hcnd _
  have hval : ∀ (j : Nat) t v, Try.f11.params[j]? = some t → args[j]? = some v → Value.okWide Try.prog W .any base t v := hval0
  have hW' := hW
  obtain ⟨p, q, hA0, hV, rfl, hfz, hnd⟩ := hW
  have hA : DataW.TrodAll enc Try.prog W 0 (fun _ => true) true Try.f11.params.toList args.toList ds p := hA0
  have hAk := hA
  rw [Try.params11] at hA hval
  obtain ⟨v0, vs0, d0, ds0, p0, q0, hargs, rfl, rfl, h0, r0⟩ := trodAll_cons hA
  obtain ⟨rfl, rfl, rfl⟩ := trodAll_nil r0
  obtain rfl : args = #[v0] := by cases args; simp_all
  obtain ⟨rfl, rfl⟩ := trodVars_none hV
  have hlt : ∀ x ∈ p0 ++ [], x.block < W.heap.size := fun x hx => hW'.lt x (List.mem_append_left _ hx)
  refine (walk v0 base W (hval 0 45 v0 rfl rfl) h0).mono fun e W' ⟨he, hg⟩ => ?_
  subst he
  exact ⟨_, rfl, Go.Sym.post_grew (pa := p0 ++ []) (pv := []) hW' (fun _ => (trodAll_cons_mk (shut_bool Try.underlying4 _) trodAll_mk0))
    (fun sp hs => Go.Sym.args_again laid hg hAk (fun t ht => by rw [Try.params11] at ht; simp at ht; rcases ht with rfl <;> first | exact ⟨reads45, row45⟩) hlt sp fun x hx => hs x (List.mem_append_left _ hx)) (fun _ => rfl) hg⟩

theorem over : Rows.locksLeavesRow.holds Try.pinned (OpenSpec.ofChange Rows.locksLeavesSpec) :=
  OpenClaim.holds_of_wide 11 Try.f11 rfl rfl rfl rfl rfl rfl rfl ⟨rfl, rfl, rfl, rfl, rfl⟩ rfl rfl rfl rfl rfl (by kernel_rfl) Try.func11 (by kernel_rfl)
    (of_decide_eq_true (by kernel_rfl)) (by unfold Func.isWrapper; first | (rw [if_pos (by decide +kernel)]; kernel_rfl) | (rw [if_neg (by decide +kernel)]; exact ⟨rfl, rfl⟩))
    (fun os started H enc _ => lifted os started H enc)

/-- ████ THE STATEMENT ████ -/
theorem proved : Rows.LocksLeavesSaid :=
  over
#print axioms proved
end Go.Proofs.Ytbpioemenmahaaa.locksLeaves
