/-
  'Rows.LocksCoversSaid' ('vintner/vintnerlaw11.LocksCovers'): at any two targets the law answers true, lays at most new blocks, and the targets read as they did. HOW: contracts of each function over named blocks (Sym and its like); two reads of one transaction in plain words (G2); the walk (G3) with the sanity check (D1).
-/
import Derived.Test.YtbpioemenmahaaaRows
import Derived.WalkKit
import Derived.ProofKit
import Derived.OpenShut
import Derived.Test.YtbpioemenmahaaaFin
import Derived.Test.YtbpioemenmahaaaG3
namespace Go.Proofs.Ytbpioemenmahaaa.locksCovers
open Go.ChangeShapes Go.WideShapes Go.ChangeAt Go.RowKit
set_option linter.unusedVariables false

theorem own : ownKnob Try.prog.godebug = none := by kernel_rfl
theorem laid : laidOutB Try.prog = true := by kernel_rfl
theorem reads23 : Try.prog.readableRec 23 = true := by kernel_rfl
theorem row23 : 23 < Try.prog.types.size := of_decide_eq_true (by kernel_rfl)
theorem cells23 : Try.prog.cellsOf 23 = [3, 3, 3, 3].length := by kernel_rfl
theorem types23 : Try.prog.cellTypes Try.prog.depth 23 = some [3, 3, 3, 3] := by kernel_rfl
set_option maxRecDepth 100000 in
open Go.Sym in
theorem tgt {v : Value} {b : Nat} {W : World} (hv : Value.okWide Try.prog W .any b 23 v) : ∃ k t p s : Int, v = .agg #[.int .i64 k, .int .i64 t, .int .i64 p, .int .i64 s] := by
  obtain ⟨cl, hcl, hlen, hc⟩ := @struct_cells Try.prog W .any b 23 v _ [3, 3, 3, 3] Try.underlying23 types23 cells23 hv
  subst hcl
  match cl, hlen, hc with
  | [c0, c1, c2, c3], _, hc =>
    obtain ⟨k, rfl⟩ := cell_int Try.underlying3 (hc 0 c0 3 rfl rfl)
    obtain ⟨t, rfl⟩ := cell_int Try.underlying3 (hc 1 c1 3 rfl rfl)
    obtain ⟨p, rfl⟩ := cell_int Try.underlying3 (hc 2 c2 3 rfl rfl)
    obtain ⟨s, rfl⟩ := cell_int Try.underlying3 (hc 3 c3 3 rfl rfl)
    exact ⟨k, t, p, s, rfl⟩
set_option maxRecDepth 100000 in
open Go.Sym in
theorem walk {H : Type} {enc : TypeId × Value → H} {d0 d1 : DataW H} {p0 p1 : List MemPlace} (v0 v1 : Value) (b : Nat) (W : World) (hv0 : Value.okWide Try.prog W .any b 23 v0) (h0 : DataW.Trod enc Try.prog W 0 (fun _ => true) true 23 v0 d0 p0)
    (hv1 : Value.okWide Try.prog W .any b 23 v1) (h1 : DataW.Trod enc Try.prog W 0 (fun _ => true) true 23 v1 d1 p1) :
    Calls Try.prog 3 #[v0, v1] W fun e w' => e = .returned (.bool true) ∧ Grew W w' := by
  obtain ⟨k1, t1, q1, s1, rfl⟩ := tgt hv0
  obtain ⟨k2, t2, q2, s2, rfl⟩ := tgt hv1
  exact calls_of covers_law W

set_option maxRecDepth 100000 in
theorem lifted (os : Os) (started : os.Started) (H : Type) (enc : TypeId × Value → H) :
    ReturnsInHanded {} Try.checked os 3 .any (Rows.locksCoversSpec.pre6 enc Try.prog Try.f3 Rows.locksCoversRow.domain false) (Rows.locksCoversSpec.post enc Try.prog Try.f3 false true false false) := by
  refine returnsInHanded_of_change (C := Try.checked) own started (by kernel_rfl) Try.func3
    (ChangeSpec.witness6 (enc := enc) (C := Try.checked) false ⟨#[], #[.agg #[.int .i64 0, .int .i64 0, .int .i64 0, .int .i64 0], .agg #[.int .i64 0, .int .i64 0, .int .i64 0, .int .i64 0]], []⟩ 8 (by kernel_rfl) (by kernel_rfl) (by kernel_rfl) (by kernel_rfl)) ?_
  intro W base args ds gs before hval0 hW hcnd _
  have hval : ∀ (j : Nat) t v, Try.f3.params[j]? = some t → args[j]? = some v → Value.okWide Try.prog W .any base t v := hval0
  have hW' := hW
  obtain ⟨p, q, hA0, hV, rfl, hfz, hnd⟩ := hW
  have hA : DataW.TrodAll enc Try.prog W 0 (fun _ => true) true Try.f3.params.toList args.toList ds p := hA0
  have hAk := hA
  rw [Try.params3] at hA hval
  obtain ⟨v0, vs0, d0, ds0, p0, q0, hargs, rfl, rfl, h0, r0⟩ := trodAll_cons hA
  obtain ⟨v1, vs1, d1, ds1, p1, q1, rfl, rfl, rfl, h1, r1⟩ := trodAll_cons r0
  obtain ⟨rfl, rfl, rfl⟩ := trodAll_nil r1
  obtain rfl : args = #[v0, v1] := by cases args; simp_all
  obtain ⟨rfl, rfl⟩ := trodVars_none hV
  have hlt : ∀ x ∈ p0 ++ (p1 ++ []), x.block < W.heap.size := fun x hx => hW'.lt x (List.mem_append_left _ hx)
  refine (walk v0 v1 base W (hval 0 23 v0 rfl rfl) h0 (hval 1 23 v1 rfl rfl) h1).mono fun e W' ⟨he, hg⟩ => ?_
  subst he
  exact ⟨_, rfl, Go.Sym.post_grew (pa := p0 ++ (p1 ++ [])) (pv := []) hW' (fun _ => (trodAll_cons_mk (shut_bool Try.underlying4 _) trodAll_mk0))
    (fun sp hs => Go.Sym.args_again laid hg hAk (fun t ht => by rw [Try.params3] at ht; simp at ht; rcases ht with rfl | rfl <;> first | exact ⟨reads23, row23⟩) hlt sp fun x hx => hs x (List.mem_append_left _ hx)) (fun _ => rfl) hg⟩

theorem over : Rows.locksCoversRow.holds Try.pinned (OpenSpec.ofChange Rows.locksCoversSpec) :=
  OpenClaim.holds_of_wide 3 Try.f3 rfl rfl rfl rfl rfl rfl rfl ⟨rfl, rfl, rfl, rfl, rfl⟩ rfl rfl rfl rfl rfl (by kernel_rfl) Try.func3 (by kernel_rfl)
    (of_decide_eq_true (by kernel_rfl)) (by unfold Func.isWrapper; first | (rw [if_pos (by decide +kernel)]; kernel_rfl) | (rw [if_neg (by decide +kernel)]; exact ⟨rfl, rfl⟩))
    (fun os started H enc _ => lifted os started H enc)

/-- ████ THE STATEMENT ████ -/
theorem proved : Rows.LocksCoversSaid :=
  over
#print axioms proved
end Go.Proofs.Ytbpioemenmahaaa.locksCovers
