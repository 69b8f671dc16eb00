/-
  'Rows.LocksKeepSaid' ('vintner/vintnerlaw11.LocksKeep'): at any arguments the law answers true, lays at most new blocks, and the arguments read as they did. HOW: contracts of each function over named blocks (Sym and its like); the lock table as a list of locks; what is held stays held (H1), what Near gives (H5); the walk (H6) with the sanity check (D1).
-/
import Derived.Test.YtbpioemenmahaaaRows
import Derived.WalkKit
import Derived.ProofKit
import Derived.OpenShut
import Derived.Test.YtbpioemenmahaaaFin
import Derived.Test.YtbpioemenmahaaaK0
import Derived.Test.YtbpioemenmahaaaH6
import Derived.Test.YtbpioemenmahaaaH7
namespace Go.Proofs.Ytbpioemenmahaaa.locksKeep
open Go.ChangeShapes Go.WideShapes Go.ChangeAt Go.RowKit
set_option linter.unusedVariables false

theorem own : ownKnob Try.prog.godebug = none := by kernel_rfl
theorem laid : laidOutB Try.prog = true := by kernel_rfl
theorem reads3 : Try.prog.readableRec 3 = true := by kernel_rfl
theorem row3 : 3 < Try.prog.types.size := of_decide_eq_true (by kernel_rfl)
theorem reads45 : Try.prog.readableRec 45 = true := by kernel_rfl
theorem row45 : 45 < Try.prog.types.size := of_decide_eq_true (by kernel_rfl)
set_option maxRecDepth 100000 in
open Go.Sym in
theorem walk {H : Type} {enc : TypeId × Value → H} {d0 d1 : DataW H} {p0 p1 : List MemPlace} (v0 v1 : Value) (b : Nat) (W : World) (hv0 : Value.okWide Try.prog W .any b 3 v0) (h0 : DataW.Trod enc Try.prog W 0 (fun _ => true) true 3 v0 d0 p0)
    (hv1 : Value.okWide Try.prog W .any b 45 v1) (h1 : DataW.Trod enc Try.prog W 0 (fun _ => true) true 45 v1 d1 p1) :
    Calls Try.prog 10 #[v0, v1] W fun e w' => e = .returned (.bool true) ∧ Grew W w' := by
  obtain ⟨n, rfl, _⟩ := open_int Try.underlying3 hv0 h0
  rcases open_structs Try.underlying45 ints27 hv1 h1 with rfl | ⟨bb, off, len, cap, cs, T, fz, rfl, hl, hm, hb, hcs⟩
  · exact calls_of (keepNil_tri n) W
  · obtain ⟨R, hR⟩ := allB_one hb
    have hall : HP (W.os, W.output) W ([(bb, .cells cs.toList.toArray T fz)] ++ R) := hp_allB.perm hR
    have h := keep_tri (bb := bb) (off := off) (len := len) (cap := cap) (cl := cs.toList) (T := T) (fz := fz) n (Nat.le_trans hl hm) fun q j hq hj => by
      obtain ⟨z, hz, _⟩ := hcs q j hq (by rw [cells27]; exact hj)
      rw [cells27] at hz
      exact ⟨z, by simpa using hz⟩
    refine (h.out _ R W hall).mono fun e w' ⟨v, L, he, ⟨hv, hL⟩, hh⟩ => ⟨by rw [he, hv], ?_⟩
    subst hL
    exact grew_of_hp hR hh fun x hx => hx

set_option maxRecDepth 100000 in
theorem lifted (os : Os) (started : os.Started) (H : Type) (enc : TypeId × Value → H) :
    ReturnsInHanded {} Try.checked os 10 .any (Rows.locksKeepSpec.pre6 enc Try.prog Try.f10 Rows.locksKeepRow.domain false) (Rows.locksKeepSpec.post enc Try.prog Try.f10 false true false false) := by
  refine returnsInHanded_of_change (C := Try.checked) own started (by kernel_rfl) Try.func10
    (ChangeSpec.witness6 (enc := enc) (C := Try.checked) false ⟨#[], #[.int .i64 0, .slice none 0 0], []⟩ 8 (by kernel_rfl) (by kernel_rfl) (by kernel_rfl) (by kernel_rfl)) ?_
  intro W base args ds gs before hval0 hW hcnd _
  have hval : ∀ (j : Nat) t v, Try.f10.params[j]? = some t → args[j]? = some v → Value.okWide Try.prog W .any base t v := hval0
  have hW' := hW
  obtain ⟨p, q, hA0, hV, rfl, hfz, hnd⟩ := hW
  have hA : DataW.TrodAll enc Try.prog W 0 (fun _ => true) true Try.f10.params.toList args.toList ds p := hA0
  have hAk := hA
  rw [Try.params10] at hA hval
  obtain ⟨v0, vs0, d0, ds0, p0, q0, hargs, rfl, rfl, h0, r0⟩ := trodAll_cons hA
  obtain ⟨v1, vs1, d1, ds1, p1, q1, rfl, rfl, rfl, h1, r1⟩ := trodAll_cons r0
  obtain ⟨rfl, rfl, rfl⟩ := trodAll_nil r1
  obtain rfl : args = #[v0, v1] := by cases args; simp_all
  obtain ⟨rfl, rfl⟩ := trodVars_none hV
  have hlt : ∀ x ∈ p0 ++ (p1 ++ []), x.block < W.heap.size := fun x hx => hW'.lt x (List.mem_append_left _ hx)
  refine (walk v0 v1 base W (hval 0 3 v0 rfl rfl) h0 (hval 1 45 v1 rfl rfl) h1).mono fun e W' ⟨he, hg⟩ => ?_
  subst he
  exact ⟨_, rfl, Go.Sym.post_grew (pa := p0 ++ (p1 ++ [])) (pv := []) hW' (fun _ => (trodAll_cons_mk (shut_bool Try.underlying4 _) trodAll_mk0))
    (fun sp hs => Go.Sym.args_again laid hg hAk (fun t ht => by rw [Try.params10] at ht; simp at ht; rcases ht with rfl | rfl <;> first | exact ⟨reads3, row3⟩ | exact ⟨reads45, row45⟩) hlt sp fun x hx => hs x (List.mem_append_left _ hx)) (fun _ => rfl) hg⟩

theorem over : Rows.locksKeepRow.holds Try.pinned (OpenSpec.ofChange Rows.locksKeepSpec) :=
  OpenClaim.holds_of_wide 10 Try.f10 rfl rfl rfl rfl rfl rfl rfl ⟨rfl, rfl, rfl, rfl, rfl⟩ rfl rfl rfl rfl rfl (by kernel_rfl) Try.func10 (by kernel_rfl)
    (of_decide_eq_true (by kernel_rfl)) (by unfold Func.isWrapper; first | (rw [if_pos (by decide +kernel)]; kernel_rfl) | (rw [if_neg (by decide +kernel)]; exact ⟨rfl, rfl⟩))
    (fun os started H enc _ => lifted os started H enc)

/-- ████ THE STATEMENT ████ -/
theorem proved : Rows.LocksKeepSaid :=
  over
#print axioms proved
end Go.Proofs.Ytbpioemenmahaaa.locksKeep
