/-
  'Rows.LocksUndoneSaid' ('vintner/vintnerlaw11.LocksUndone'): at any arguments the law answers true, lays at most new blocks, and the arguments read as they did. HOW: contracts of each function over named blocks (Sym and its like); the lock table as a list of locks; what Split and Merge do (J1), that a leaf split and merged back leaves all as it was (J3); the walk (J4) with the sanity check (D1).
-/
import Derived.Test.YtbpioemenmahaaaRows
import Derived.WalkKit
import Derived.ProofKit
import Derived.OpenShut
import Derived.Test.YtbpioemenmahaaaFin
import Derived.Test.YtbpioemenmahaaaK0
import Derived.Test.YtbpioemenmahaaaI4
import Derived.Test.YtbpioemenmahaaaJ4
namespace Go.Proofs.Ytbpioemenmahaaa.locksUndone
open Go.ChangeShapes Go.WideShapes Go.ChangeAt Go.RowKit
set_option linter.unusedVariables false

theorem own : ownKnob Try.prog.godebug = none := by kernel_rfl
theorem laid : laidOutB Try.prog = true := by kernel_rfl
theorem reads3 : Try.prog.readableRec 3 = true := by kernel_rfl
theorem row3 : 3 < Try.prog.types.size := of_decide_eq_true (by kernel_rfl)
theorem reads45 : Try.prog.readableRec 45 = true := by kernel_rfl
theorem row45 : 45 < Try.prog.types.size := of_decide_eq_true (by kernel_rfl)
set_option maxRecDepth 100000 in
open Go.Sym in
theorem walk {H : Type} {enc : TypeId × Value → H} {d0 d1 d2 : DataW H} {p0 p1 p2 : List MemPlace} (v0 v1 v2 : Value) (b : Nat) (W : World) (hv0 : Value.okWide Try.prog W .any b 45 v0) (h0 : DataW.Trod enc Try.prog W 0 (fun _ => true) true 45 v0 d0 p0)
    (hv1 : Value.okWide Try.prog W .any b 3 v1) (h1 : DataW.Trod enc Try.prog W 0 (fun _ => true) true 3 v1 d1 p1) (hv2 : Value.okWide Try.prog W .any b 3 v2) (h2 : DataW.Trod enc Try.prog W 0 (fun _ => true) true 3 v2 d2 p2) :
    Calls Try.prog 8 #[v0, v1, v2] W fun e w' => e = .returned (.bool true) ∧ Grew W w' := by
  obtain ⟨n, rfl, _⟩ := open_int Try.underlying3 hv1 h1
  obtain ⟨leaf, rfl, _⟩ := open_int Try.underlying3 hv2 h2
  exact walk_calls (g := 8) (fun v => #[v, .int .i64 n, .int .i64 leaf]) hv0 h0 fun o len cap P0 hl hC => undone_tri hl hC n leaf

set_option maxRecDepth 100000 in
theorem lifted (os : Os) (started : os.Started) (H : Type) (enc : TypeId × Value → H) :
    ReturnsInHanded {} Try.checked os 8 .any (Rows.locksUndoneSpec.pre6 enc Try.prog Try.f8 Rows.locksUndoneRow.domain false) (Rows.locksUndoneSpec.post enc Try.prog Try.f8 false true false false) := by
  refine returnsInHanded_of_change (C := Try.checked) own started (by kernel_rfl) Try.func8
    (ChangeSpec.witness6 (enc := enc) (C := Try.checked) false ⟨#[], #[.slice none 0 0, .int .i64 0, .int .i64 0], []⟩ 8 (by kernel_rfl) (by kernel_rfl) (by kernel_rfl) (by kernel_rfl)) ?_
  intro W base args ds gs before hval0 hW hcnd _
  have hval : ∀ (j : Nat) t v, Try.f8.params[j]? = some t → args[j]? = some v → Value.okWide Try.prog W .any base t v := hval0
  have hW' := hW
  obtain ⟨p, q, hA0, hV, rfl, hfz, hnd⟩ := hW
  have hA : DataW.TrodAll enc Try.prog W 0 (fun _ => true) true Try.f8.params.toList args.toList ds p := hA0
  have hAk := hA
  rw [Try.params8] at hA hval
  obtain ⟨v0, vs0, d0, ds0, p0, q0, hargs, rfl, rfl, h0, r0⟩ := trodAll_cons hA
  obtain ⟨v1, vs1, d1, ds1, p1, q1, rfl, rfl, rfl, h1, r1⟩ := trodAll_cons r0
  obtain ⟨v2, vs2, d2, ds2, p2, q2, rfl, rfl, rfl, h2, r2⟩ := trodAll_cons r1
  obtain ⟨rfl, rfl, rfl⟩ := trodAll_nil r2
  obtain rfl : args = #[v0, v1, v2] := by cases args; simp_all
  obtain ⟨rfl, rfl⟩ := trodVars_none hV
  have hlt : ∀ x ∈ p0 ++ (p1 ++ (p2 ++ [])), x.block < W.heap.size := fun x hx => hW'.lt x (List.mem_append_left _ hx)
  refine (walk v0 v1 v2 base W (hval 0 45 v0 rfl rfl) h0 (hval 1 3 v1 rfl rfl) h1 (hval 2 3 v2 rfl rfl) h2).mono fun e W' ⟨he, hg⟩ => ?_
  subst he
  exact ⟨_, rfl, Go.Sym.post_grew (pa := p0 ++ (p1 ++ (p2 ++ []))) (pv := []) hW' (fun _ => (trodAll_cons_mk (shut_bool Try.underlying4 _) trodAll_mk0))
    (fun sp hs => Go.Sym.args_again laid hg hAk (fun t ht => by rw [Try.params8] at ht; simp at ht; rcases ht with rfl | rfl | rfl <;> first | exact ⟨reads3, row3⟩ | exact ⟨reads45, row45⟩) hlt sp fun x hx => hs x (List.mem_append_left _ hx)) (fun _ => rfl) hg⟩

theorem over : Rows.locksUndoneRow.holds Try.pinned (OpenSpec.ofChange Rows.locksUndoneSpec) :=
  OpenClaim.holds_of_wide 8 Try.f8 rfl rfl rfl rfl rfl rfl rfl ⟨rfl, rfl, rfl, rfl, rfl⟩ rfl rfl rfl rfl rfl (by kernel_rfl) Try.func8 (by kernel_rfl)
    (of_decide_eq_true (by kernel_rfl)) (by unfold Func.isWrapper; first | (rw [if_pos (by decide +kernel)]; kernel_rfl) | (rw [if_neg (by decide +kernel)]; exact ⟨rfl, rfl⟩))
    (fun os started H enc _ => lifted os started H enc)

/-- ████ THE STATEMENT ████ -/
theorem proved : Rows.LocksUndoneSaid :=
  over
#print axioms proved
end Go.Proofs.Ytbpioemenmahaaa.locksUndone
