/- Locks: an argument that is a slice of structs of ints. -/
import Derived.Test.YtbpioemenmahaaaFin
import Derived.Test.YtbpioemenmahaaaProg
set_option linter.unusedVariables false
set_option linter.unusedSimpArgs false
set_option linter.unnecessarySimpa false
namespace Go.Sym
open Go Go.ChangeShapes Go.WideShapes

/-- all cells of type t are ints -/
structure Ints (P : Program) (t : TypeId) : Prop where
  out : ∀ {H : Type} {enc : TypeId × Value → H} {w : World} {base : Nat} {spare : Nat → Bool} {held : Bool} {fuel : Nat} {cs : List Value} {x : DataW H × List MemPlace}, DataW.trod enc P w base spare held fuel t cs = some x →
    ∀ j, j < P.cellsOf t → ∃ z : Int, cs[j]? = some (.int .i64 z) ∧ (Lit.int .i64 z).wf = true
theorem Ints.int {P : Program} {t : TypeId} (ht : P.underlying t = some (.int .i64)) (hc : P.cellsOf t = 1) : Ints P t where
  out h j hj := by
    obtain ⟨z, rfl, _, hw⟩ := DataW.trod_int ht h
    obtain rfl : j = 0 := by omega
    exact ⟨z, rfl, hw⟩
theorem Ints.struct {P : Program} {t : TypeId} {fs : Array Field} (ht : P.underlying t = some (.struct fs)) (hall : ∀ j, j < P.cellsOf t → ∃ (i : Nat) (f : Field), fs[i]? = some f ∧ f.offset ≤ j ∧ j < f.offset + P.cellsOf f.type ∧ Ints P f.type) : Ints P t where
  out h j hj := by
    obtain ⟨xs, n, _, _, hl, hxl, hx⟩ := DataW.trod_struct ht h
    obtain ⟨i, f, hf, h1, h2, hI⟩ := hall j hj
    have h3 := hx i f hf
    have hi : i < xs.length := by rw [hxl]; exact (Array.getElem?_eq_some_iff.1 hf).1
    rw [List.getElem?_eq_getElem hi] at h3
    obtain ⟨z, hz, hw⟩ := hI.out h3 (j - f.offset) (by omega)
    refine ⟨z, ?_, hw⟩
    rw [List.getElem?_take_of_lt (by omega), List.getElem?_drop] at hz
    rw [← hz]; congr 1; omega
section
variable {P : Program} {w : World} {b : Nat} {t e : TypeId} {v : Value} {H : Type} {enc : TypeId × Value → H} {d : DataW H} {ps : List MemPlace}
theorem open_structs (ht : P.underlying t = some (.slice e)) (he : Ints P e) (hv : Value.okWide P w .any b t v) (h0 : DataW.Trod enc P w 0 (fun _ => true) true t v d ps) :
    v = .slice none 0 0 ∨ ∃ bb off len cap cs T fz, v = .slice (some ⟨bb, off, none⟩) len cap ∧ len ≤ cap ∧ cap ≤ maxLen ∧ w.heap[bb]? = some (.cells cs T fz) ∧ ∀ q j, q < len → j < P.cellsOf e → ∃ z : Int, cs[off + q * P.cellsOf e + j]? = some (.int .i64 z) ∧ (Lit.int .i64 z).wf = true := by
  rcases slice_place ht hv with rfl | ⟨bb, off, len, cap, cs, T, fz, rfl, hb⟩
  · exact .inl rfl
  obtain ⟨fuel, hf⟩ := h0
  refine .inr ?_
  rcases Go.Deep.open_slice ht hf with ⟨h1, _⟩ | ⟨a, len', cap', m, n, D, Pl, h1, _, hl, hm, hmm, _, hx⟩
  · simp [Value.cells] at h1
  simp only [Value.cells, List.cons.injEq, Value.slice.injEq, and_true] at h1
  obtain ⟨h1, rfl, rfl⟩ := h1
  injection h1 with h1
  subst h1
  refine ⟨bb, off, len, cap, cs, T, fz, rfl, hl, hm, hb, fun q j hq hj => ?_⟩
  have hqm : q < m := by rw [hmm]; simp only [if_true]; omega
  obtain ⟨cs', h2, h3⟩ := hx q hqm
  obtain ⟨_, hlen, hcell⟩ := World.cells?_some h2
  obtain ⟨z, hz, hw⟩ := he.out h3 j hj
  refine ⟨z, ?_, hw⟩
  have h6 := hcell j hj
  rw [hz] at h6
  have e1 : ((⟨bb, off, none⟩ : Addr).add (q * P.cellsOf e)).add j = ⟨bb, off + q * P.cellsOf e + j, none⟩ := by
    unfold Addr.add
    by_cases h8 : q * P.cellsOf e = 0 <;> by_cases h9 : j = 0 <;> simp [h8, h9]
  rw [e1] at h6
  simpa [World.cell?, hb] using h6
end
end Go.Sym
namespace Go.Proofs.Ytbpioemenmahaaa
open Go.Sym
theorem cells3 : Try.prog.cellsOf 3 = 1 := by kernel_rfl
theorem cells23 : Try.prog.cellsOf 23 = 4 := by kernel_rfl
theorem cells27 : Try.prog.cellsOf 27 = 7 := by kernel_rfl
theorem ints3 : Ints Try.prog 3 := .int Try.underlying3 cells3
theorem ints23 : Ints Try.prog 23 := .struct Try.underlying23 fun j hj => by
  rw [cells23] at hj
  match j, hj with
  | 0, _ => exact ⟨0, _, rfl, by decide, by simp [cells3], ints3⟩
  | 1, _ => exact ⟨1, _, rfl, by decide, by simp [cells3], ints3⟩
  | 2, _ => exact ⟨2, _, rfl, by decide, by simp [cells3], ints3⟩
  | 3, _ => exact ⟨3, _, rfl, by decide, by simp [cells3], ints3⟩
theorem ints27 : Ints Try.prog 27 := .struct Try.underlying27 fun j hj => by
  rw [cells27] at hj
  match j, hj with
  | 0, _ => exact ⟨0, _, rfl, by decide, by simp [cells3], ints3⟩
  | 1, _ => exact ⟨1, _, rfl, by decide, by simp [cells3], ints3⟩
  | 2, _ => exact ⟨2, _, rfl, by decide, by simp [cells23], ints23⟩
  | 3, _ => exact ⟨2, _, rfl, by decide, by simp [cells23], ints23⟩
  | 4, _ => exact ⟨2, _, rfl, by decide, by simp [cells23], ints23⟩
  | 5, _ => exact ⟨2, _, rfl, by decide, by simp [cells23], ints23⟩
  | 6, _ => exact ⟨3, _, rfl, by decide, by simp [cells3], ints3⟩
end Go.Proofs.Ytbpioemenmahaaa
