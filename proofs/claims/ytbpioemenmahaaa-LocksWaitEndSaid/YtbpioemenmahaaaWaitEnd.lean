/-
  'Rows.LocksWaitEndSaid' ('vintner/vintnerlaw11.LocksWaitEnd'): at any argument the law answers true, lays at most new blocks, and the argument reads as it did. HOW: contracts of each function over named blocks (Sym and its like); the waits-for graph as a list of pairs, acyclic over eight numbers (E1); the walk (E3) with the sanity check (D1).
-/
import Derived.Test.YtbpioemenmahaaaRows
import Derived.WalkKit
import Derived.ProofKit
import Derived.OpenShut
import Derived.Test.YtbpioemenmahaaaFin
import Derived.Test.YtbpioemenmahaaaE3
namespace Go.Proofs.Ytbpioemenmahaaa.locksWaitEnd
open Go.ChangeShapes Go.WideShapes Go.ChangeAt Go.RowKit
set_option linter.unusedVariables false

theorem own : ownKnob Try.prog.godebug = none := by kernel_rfl
theorem laid : laidOutB Try.prog = true := by kernel_rfl
theorem reads38 : Try.prog.readableRec 38 = true := by kernel_rfl
theorem row38 : 38 < Try.prog.types.size := of_decide_eq_true (by kernel_rfl)
set_option maxRecDepth 100000 in
open Go.Sym in
theorem walk {H : Type} {enc : TypeId × Value → H} {d : DataW H} {ps : List MemPlace} (v0 : Value) (b : Nat) (W : World) (hv : Value.okWide Try.prog W .any b 38 v0) (h0 : DataW.Trod enc Try.prog W 0 (fun _ => true) true 38 v0 d ps) :
    Calls Try.prog 4 #[v0] W fun e w' => e = .returned (.bool true) ∧ Grew W w' := by
  rcases open_rows Try.underlying38 Try.underlying41 Try.underlying3 (by kernel_rfl) (by kernel_rfl) hv h0 with rfl | ⟨bb, off, len, cap, cs, T, fz, rfl, hl, hm, hb, hcs⟩
  · exact calls_of waitEndNil_tri W
  · obtain ⟨R, hR⟩ := allB_one hb
    have hall : HP (W.os, W.output) W ([(bb, .cells cs.toList.toArray T fz)] ++ R) := hp_allB.perm hR
    have h := waitEnd_tri (bb := bb) (off := off) (len := len) (cap := cap) (cl := cs.toList) (T := T) (fz := fz) (Nat.le_trans hl hm) fun q j hq hj => by
      obtain ⟨z, hz, _⟩ := hcs q j hq hj
      exact ⟨z, by simpa using hz⟩
    refine (h.out _ R W hall).mono fun e w' ⟨v, L, he, ⟨hv, hL⟩, hh⟩ => ⟨by rw [he, hv], ?_⟩
    subst hL
    exact grew_of_hp hR hh fun x hx => hx

set_option maxRecDepth 100000 in
theorem lifted (os : Os) (started : os.Started) (H : Type) (enc : TypeId × Value → H) :
    ReturnsInHanded {} Try.checked os 4 .any (Rows.locksWaitEndSpec.pre6 enc Try.prog Try.f4 Rows.locksWaitEndRow.domain false) (Rows.locksWaitEndSpec.post enc Try.prog Try.f4 false true false false) := by
  refine returnsInHanded_of_change (C := Try.checked) own started (by kernel_rfl) Try.func4
    (ChangeSpec.witness6 (enc := enc) (C := Try.checked) false ⟨#[], #[.slice none 0 0], []⟩ 8 (by kernel_rfl) (by kernel_rfl) (by kernel_rfl) (by kernel_rfl)) ?_
  intro W base args ds gs before hval0 hW hcnd _
  have hval : ∀ (j : Nat) t v, Try.f4.params[j]? = some t → args[j]? = some v → Value.okWide Try.prog W .any base t v := hval0
  have hW' := hW
  obtain ⟨p, q, hA0, hV, rfl, hfz, hnd⟩ := hW
  have hA : DataW.TrodAll enc Try.prog W 0 (fun _ => true) true Try.f4.params.toList args.toList ds p := hA0
  have hAk := hA
  rw [Try.params4] at hA hval
  obtain ⟨v0, vs0, d0, ds0, p0, q0, hargs, rfl, rfl, h0, r0⟩ := trodAll_cons hA
  obtain ⟨rfl, rfl, rfl⟩ := trodAll_nil r0
  obtain rfl : args = #[v0] := by cases args; simp_all
  obtain ⟨rfl, rfl⟩ := trodVars_none hV
  have hlt : ∀ x ∈ p0 ++ [], x.block < W.heap.size := fun x hx => hW'.lt x (List.mem_append_left _ hx)
  refine (walk v0 base W (hval 0 38 v0 rfl rfl) h0).mono fun e W' ⟨he, hg⟩ => ?_
  subst he
  exact ⟨_, rfl, Go.Sym.post_grew (pa := p0 ++ []) (pv := []) hW' (fun _ => (trodAll_cons_mk (shut_bool Try.underlying4 _) trodAll_mk0))
    (fun sp hs => Go.Sym.args_again laid hg hAk (fun t ht => by rw [Try.params4] at ht; simp at ht; rcases ht with rfl <;> first | exact ⟨reads38, row38⟩) hlt sp fun x hx => hs x (List.mem_append_left _ hx)) (fun _ => rfl) hg⟩

theorem over : Rows.locksWaitEndRow.holds Try.pinned (OpenSpec.ofChange Rows.locksWaitEndSpec) :=
  OpenClaim.holds_of_wide 4 Try.f4 rfl rfl rfl rfl rfl rfl rfl ⟨rfl, rfl, rfl, rfl, rfl⟩ rfl rfl rfl rfl rfl (by kernel_rfl) Try.func4 (by kernel_rfl)
    (of_decide_eq_true (by kernel_rfl)) (by unfold Func.isWrapper; first | (rw [if_pos (by decide +kernel)]; kernel_rfl) | (rw [if_neg (by decide +kernel)]; exact ⟨rfl, rfl⟩))
    (fun os started H enc _ => lifted os started H enc)

/-- ████ THE STATEMENT ████ -/
theorem proved : Rows.LocksWaitEndSaid :=
  over
#print axioms proved
end Go.Proofs.Ytbpioemenmahaaa.locksWaitEnd
