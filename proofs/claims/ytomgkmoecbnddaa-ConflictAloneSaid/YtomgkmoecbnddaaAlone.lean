/-
  'Rows.ConflictAloneSaid' ('vintner/vintnerlaw12.ConflictAlone'): at any arguments the law answers true, lays at most new blocks, and the arguments read as they did. HOW: contracts of each function over named blocks (Sym and its like); one transaction alone in a graph is never doomed, and the store takes it; the star's answers are computed on the plain graph.
-/
import Derived.Test.YtomgkmoecbnddaaRows
import Derived.WalkKit
import Derived.ProofKit
import Derived.OpenShut
import Derived.Test.YtomgkmoecbnddaaT8
namespace Go.Proofs.Ytomgkmoecbnddaa.conflictAlone
open Go.ChangeShapes Go.WideShapes Go.ChangeAt Go.RowKit
set_option linter.unusedVariables false

theorem own : ownKnob Try.prog.godebug = none := by kernel_rfl
theorem laid : laidOutB Try.prog = true := by kernel_rfl
theorem reads4 : Try.prog.readableRec 4 = true := by kernel_rfl
theorem row4 : 4 < Try.prog.types.size := of_decide_eq_true (by kernel_rfl)
theorem reads5 : Try.prog.readableRec 5 = true := by kernel_rfl
theorem row5 : 5 < Try.prog.types.size := of_decide_eq_true (by kernel_rfl)
theorem reads22 : Try.prog.readableRec 22 = true := by kernel_rfl
theorem row22 : 22 < Try.prog.types.size := of_decide_eq_true (by kernel_rfl)
theorem cells37 : Try.prog.cellsOf 37 = 3 := by kernel_rfl
theorem cellsU5 : Try.prog.cellsOf 5 = 1 := by kernel_rfl
open Go.Sym in
theorem intsU5 : Ints Try.prog .u8 5 := .int Try.underlying5 cellsU5
open Go.Sym in
theorem ints37 : Ints Try.prog .u8 37 := .struct Try.underlying37 fun j hj => by
  rw [cells37] at hj
  match j, hj with
  | 0, _ => exact ⟨0, _, rfl, by decide, by simp [cellsU5], intsU5⟩
  | 1, _ => exact ⟨1, _, rfl, by decide, by simp [cellsU5], intsU5⟩
  | 2, _ => exact ⟨2, _, rfl, by decide, by simp [cellsU5], intsU5⟩
set_option maxRecDepth 100000 in
open Go.Sym in
theorem walk {H : Type} {enc : TypeId × Value → H} {d0 d1 d2 : DataW H} {p0 p1 p2 : List MemPlace} (v0 v1 v2 : Value) (b : Nat) (W : World) (hv0 : Value.okWide Try.prog W .any b 22 v0) (h0 : DataW.Trod enc Try.prog W 0 (fun _ => true) true 22 v0 d0 p0)
    (hv1 : Value.okWide Try.prog W .any b 5 v1) (h1 : DataW.Trod enc Try.prog W 0 (fun _ => true) true 5 v1 d1 p1) (hv2 : Value.okWide Try.prog W .any b 4 v2) (h2 : DataW.Trod enc Try.prog W 0 (fun _ => true) true 4 v2 d2 p2) :
    Calls Try.prog 3 #[v0, v1, v2] W fun e w' => e = .returned (.bool true) ∧ Grew W w' := by
  obtain ⟨z, rfl, _, _, hzw⟩ := open_int Try.underlying5 hv1 h1
  obtain ⟨fb, rfl, _⟩ := open_bool Try.underlying4 hv2 h2
  have hz := u8_wf hzw
  rcases open_structs Try.underlying22 ints37 hv0 h0 with rfl | ⟨bb, off, len, cap, cs, T, fz, rfl, hl, hm, hb, hcs⟩
  · have h := alone_tri (po := none) (bb := 0) (off := 0) (len := 0) (cap := 0) (cl := []) (T := 0) (fz := (0, 0)) (AB := []) (fb := fb) hz (Nat.zero_le _) (.inl rfl) fun q j hq => absurd hq (Nat.not_lt_zero _)
    refine (h.out (W.os, W.output) (allB W) W (by rw [List.nil_append]; exact hp_allB)).mono fun e w' ⟨v, L, he, ⟨hv, hL⟩, hh⟩ => ⟨by rw [he, hv], ?_⟩
    subst hL
    exact grew_of_hp (pre := []) (by rw [List.nil_append]) hh fun x hx => by cases hx
  · obtain ⟨R, hR⟩ := allB_one hb
    have hall : HP (W.os, W.output) W ([(bb, .cells cs.toList.toArray T fz)] ++ R) := hp_allB.perm hR
    have h := alone_tri (po := some ⟨bb, off, none⟩) (bb := bb) (off := off) (len := len) (cap := cap) (cl := cs.toList) (T := T) (fz := fz) (AB := [(bb, .cells cs.toList.toArray T fz)]) (fb := fb) hz (Nat.le_trans hl hm) (.inr ⟨rfl, List.mem_cons_self ..⟩) fun q j hq hj => by
      obtain ⟨z, hz, hw⟩ := hcs q j hq (by rw [cells37]; exact hj)
      rw [cells37] at hz
      obtain ⟨h1, h2⟩ := u8_wf hw
      exact ⟨z, by simpa using hz, h1, h2⟩
    refine (h.out _ R W hall).mono fun e w' ⟨v, L, he, ⟨hv, hL⟩, hh⟩ => ⟨by rw [he, hv], ?_⟩
    subst hL
    exact grew_of_hp hR hh fun x hx => hx

set_option maxRecDepth 100000 in
theorem lifted (os : Os) (started : os.Started) (H : Type) (enc : TypeId × Value → H) :
    ReturnsInHanded {} Try.checked os 3 .any (Rows.conflictAloneSpec.pre6 enc Try.prog Try.f3 Rows.conflictAloneRow.domain false) (Rows.conflictAloneSpec.post enc Try.prog Try.f3 false true false false) := by
  refine returnsInHanded_of_change (C := Try.checked) own started (by kernel_rfl) Try.func3
    (ChangeSpec.witness6 (enc := enc) (C := Try.checked) false ⟨#[], #[.slice none 0 0, .int .u8 0, .bool false], []⟩ 8 (by kernel_rfl) (by kernel_rfl) (by kernel_rfl) (by kernel_rfl)) ?_
  intro W base args ds gs before hval0 hW hcnd _
  have hval : ∀ (j : Nat) t v, Try.f3.params[j]? = some t → args[j]? = some v → Value.okWide Try.prog W .any base t v := hval0
  have hW' := hW
  obtain ⟨p, q, hA0, hV, rfl, hfz, hnd⟩ := hW
  have hA : DataW.TrodAll enc Try.prog W 0 (fun _ => true) true Try.f3.params.toList args.toList ds p := hA0
  have hAk := hA
  rw [Try.params3] at hA hval
  obtain ⟨v0, vs0, d0, ds0, p0, q0, hargs, rfl, rfl, h0, r0⟩ := trodAll_cons hA
  obtain ⟨v1, vs1, d1, ds1, p1, q1, rfl, rfl, rfl, h1, r1⟩ := trodAll_cons r0
  obtain ⟨v2, vs2, d2, ds2, p2, q2, rfl, rfl, rfl, h2, r2⟩ := trodAll_cons r1
  obtain ⟨rfl, rfl, rfl⟩ := trodAll_nil r2
  obtain rfl : args = #[v0, v1, v2] := by cases args; simp_all
  obtain ⟨rfl, rfl⟩ := trodVars_none hV
  have hlt : ∀ x ∈ p0 ++ (p1 ++ (p2 ++ [])), x.block < W.heap.size := fun x hx => hW'.lt x (List.mem_append_left _ hx)
  refine (walk v0 v1 v2 base W (hval 0 22 v0 rfl rfl) h0 (hval 1 5 v1 rfl rfl) h1 (hval 2 4 v2 rfl rfl) h2).mono fun e W' ⟨he, hg⟩ => ?_
  subst he
  exact ⟨_, rfl, Go.Sym.post_grew (pa := p0 ++ (p1 ++ (p2 ++ []))) (pv := []) hW' (fun _ => (trodAll_cons_mk (shut_bool Try.underlying4 _) trodAll_mk0))
    (fun sp hs => Go.Sym.args_again laid hg hAk (fun t ht => by rw [Try.params3] at ht; simp at ht; rcases ht with rfl | rfl | rfl <;> first | exact ⟨reads4, row4⟩ | exact ⟨reads5, row5⟩ | exact ⟨reads22, row22⟩) hlt sp fun x hx => hs x (List.mem_append_left _ hx)) (fun _ => rfl) hg⟩

theorem over : Rows.conflictAloneRow.holds Try.pinned (OpenSpec.ofChange Rows.conflictAloneSpec) :=
  OpenClaim.holds_of_wide 3 Try.f3 rfl rfl rfl rfl rfl rfl rfl ⟨rfl, rfl, rfl, rfl, rfl⟩ rfl rfl rfl rfl rfl (by kernel_rfl) Try.func3 (by kernel_rfl)
    (of_decide_eq_true (by kernel_rfl)) (by unfold Func.isWrapper; first | (rw [if_pos (by decide +kernel)]; kernel_rfl) | (rw [if_neg (by decide +kernel)]; exact ⟨rfl, rfl⟩))
    (fun os started H enc _ => lifted os started H enc)

/-- ████ THE STATEMENT ████ -/
theorem proved : Rows.ConflictAloneSaid :=
  over
#print axioms proved
end Go.Proofs.Ytomgkmoecbnddaa.conflictAlone
