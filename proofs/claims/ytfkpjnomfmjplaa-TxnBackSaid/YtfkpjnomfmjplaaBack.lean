/-
  'Rows.TxnBackSaid' ('vintner/vintnerlaw13.TxnBack'): at any writes and any savepoint the law answers true, lays at most new blocks, and its arguments read as they did.
-/
import Derived.Test.YtfkpjnomfmjplaaRows
import Derived.WalkKit
import Derived.ProofKit
import Derived.OpenShut
import Derived.Test.YtfkpjnomfmjplaaQE
namespace Go.Proofs.Ytfkpjnomfmjplaa.txnBack
open Go.ChangeShapes Go.WideShapes Go.ChangeAt Go.RowKit
set_option linter.unusedVariables false

theorem own : ownKnob Try.prog.godebug = none := by kernel_rfl
theorem laid : laidOutB Try.prog = true := by kernel_rfl
theorem reads3 : Try.prog.readableRec 3 = true := by kernel_rfl
theorem row3 : 3 < Try.prog.types.size := of_decide_eq_true (by kernel_rfl)
theorem reads58 : Try.prog.readableRec 58 = true := by kernel_rfl
theorem row58 : 58 < Try.prog.types.size := of_decide_eq_true (by kernel_rfl)
set_option maxRecDepth 100000 in
open Go.Sym in
theorem walk {H : Type} {enc : TypeId × Value → H} {d0 d1 : DataW H} {p0 p1 : List MemPlace} (v0 v1 : Value) (b : Nat) (W : World) (hv0 : Value.okWide Try.prog W .any b 58 v0) (h0 : DataW.Trod enc Try.prog W 0 (fun _ => true) true 58 v0 d0 p0) (hv1 : Value.okWide Try.prog W .any b 3 v1) (h1 : DataW.Trod enc Try.prog W 0 (fun _ => true) true 3 v1 d1 p1) :
    Calls Try.prog 6 #[v0, v1] W fun e w' => e = .returned (.bool true) ∧ Grew W w' := by
  obtain ⟨z, rfl, _⟩ := open_int Try.underlying3 hv1 h1
  obtain ⟨fuel, hf⟩ := h0
  have hA : BArg v0 (allB W) := by
    rcases slice_place Try.underlying58 hv0 with rfl | ⟨bb, off, len, cap, cs, T, fz, rfl, _⟩
    · exact open_bs (v := .slice none 0 0) hf
    · exact open_bs (v := .slice (some ⟨bb, off, none⟩) len cap) hf
  refine ((back_walk hA z).out (W.os, W.output) [] W (by rw [List.append_nil]; exact hp_allB)).mono fun e w' ⟨v, L, he, ⟨hv, hL⟩, hh⟩ => ⟨by rw [he, hv], ?_⟩
  subst hL
  exact grew_of_hp (pre := allB W) (R := []) (by rw [List.append_nil]) hh fun x hx => hx

set_option maxRecDepth 100000 in
theorem lifted (os : Os) (started : os.Started) (H : Type) (enc : TypeId × Value → H) :
    ReturnsInHanded {} Try.checked os 6 .any (Rows.txnBackSpec.pre6 enc Try.prog Try.f6 Rows.txnBackRow.domain false) (Rows.txnBackSpec.post enc Try.prog Try.f6 false true false false) := by
  refine returnsInHanded_of_change (C := Try.checked) own started (by kernel_rfl) Try.func6
    (ChangeSpec.witness6 (enc := enc) (C := Try.checked) false ⟨#[], #[.slice none 0 0, .int .i64 0], []⟩ 8 (by kernel_rfl) (by kernel_rfl) (by kernel_rfl) (by kernel_rfl)) ?_
  intro W base args ds gs before hval0 hW hcnd _
  have hval : ∀ (j : Nat) t v, Try.f6.params[j]? = some t → args[j]? = some v → Value.okWide Try.prog W .any base t v := hval0
  have hW' := hW
  obtain ⟨p, q, hA0, hV, rfl, hfz, hnd⟩ := hW
  have hA : DataW.TrodAll enc Try.prog W 0 (fun _ => true) true Try.f6.params.toList args.toList ds p := hA0
  have hAk := hA
  rw [Try.params6] at hA hval
  obtain ⟨v0, vs0, d0, ds0, p0, q0, hargs, rfl, rfl, h0, r0⟩ := trodAll_cons hA
  obtain ⟨v1, vs1, d1, ds1, p1, q1, rfl, rfl, rfl, h1, r1⟩ := trodAll_cons r0
  obtain ⟨rfl, rfl, rfl⟩ := trodAll_nil r1
  obtain rfl : args = #[v0, v1] := by cases args; simp_all
  obtain ⟨rfl, rfl⟩ := trodVars_none hV
  have hlt : ∀ x ∈ p0 ++ (p1 ++ []), x.block < W.heap.size := fun x hx => hW'.lt x (List.mem_append_left _ hx)
  refine (walk v0 v1 base W (hval 0 58 v0 rfl rfl) h0 (hval 1 3 v1 rfl rfl) h1).mono fun e W' ⟨he, hg⟩ => ?_
  subst he
  exact ⟨_, rfl, Go.Sym.post_grew (pa := p0 ++ (p1 ++ [])) (pv := []) hW' (fun _ => (trodAll_cons_mk (shut_bool Try.underlying4 _) trodAll_mk0))
    (fun sp hs => Go.Sym.args_again laid hg hAk (fun t ht => by rw [Try.params6] at ht; simp at ht; rcases ht with rfl | rfl <;> first | exact ⟨reads3, row3⟩ | exact ⟨reads58, row58⟩) hlt sp fun x hx => hs x (List.mem_append_left _ hx)) (fun _ => rfl) hg⟩

theorem over : Rows.txnBackRow.holds Try.pinned (OpenSpec.ofChange Rows.txnBackSpec) :=
  OpenClaim.holds_of_wide 6 Try.f6 rfl rfl rfl rfl rfl rfl rfl ⟨rfl, rfl, rfl, rfl, rfl⟩ rfl rfl rfl rfl rfl (by kernel_rfl) Try.func6 (by kernel_rfl)
    (of_decide_eq_true (by kernel_rfl)) (by unfold Func.isWrapper; first | (rw [if_pos (by decide +kernel)]; kernel_rfl) | (rw [if_neg (by decide +kernel)]; exact ⟨rfl, rfl⟩))
    (fun os started H enc _ => lifted os started H enc)

/-- ████ THE STATEMENT ████ -/
theorem proved : Rows.TxnBackSaid :=
  over
#print axioms proved
end Go.Proofs.Ytfkpjnomfmjplaa.txnBack
