/- Conflict: arguments that are slices of structs of bytes; arrays of booleans. -/
import Derived.Test.YtomgkmoecbnddaaS2
set_option linter.unusedVariables false
set_option linter.unusedSimpArgs false
set_option linter.unnecessarySimpa false
namespace Go.Sym
open Go Go.ChangeShapes Go.WideShapes
/-- all cells of type t are ints -/
structure Ints (P : Program) (q : IntKind) (t : TypeId) : Prop where
  out : ∀ {H : Type} {enc : TypeId × Value → H} {w : World} {base : Nat} {spare : Nat → Bool} {held : Bool} {fuel : Nat} {cs : List Value} {x : DataW H × List MemPlace}, DataW.trod enc P w base spare held fuel t cs = some x →
    ∀ j, j < P.cellsOf t → ∃ z : Int, cs[j]? = some (.int q z) ∧ (Lit.int q z).wf = true
theorem Ints.int {P : Program} {q : IntKind} {t : TypeId} (ht : P.underlying t = some (.int q)) (hc : P.cellsOf t = 1) : Ints P q t where
  out h j hj := by
    obtain ⟨z, rfl, _, hw⟩ := DataW.trod_int ht h
    obtain rfl : j = 0 := by omega
    exact ⟨z, rfl, hw⟩
theorem Ints.struct {P : Program} {q : IntKind} {t : TypeId} {fs : Array Field} (ht : P.underlying t = some (.struct fs)) (hall : ∀ j, j < P.cellsOf t → ∃ (i : Nat) (f : Field), fs[i]? = some f ∧ f.offset ≤ j ∧ j < f.offset + P.cellsOf f.type ∧ Ints P q f.type) : Ints P q t where
  out h j hj := by
    obtain ⟨xs, n, _, _, hl, hxl, hx⟩ := DataW.trod_struct ht h
    obtain ⟨i, f, hf, h1, h2, hI⟩ := hall j hj
    have h3 := hx i f hf
    have hi : i < xs.length := by rw [hxl]; exact (Array.getElem?_eq_some_iff.1 hf).1
    rw [List.getElem?_eq_getElem hi] at h3
    obtain ⟨z, hz, hw⟩ := hI.out h3 (j - f.offset) (by omega)
    refine ⟨z, ?_, hw⟩
    rw [List.getElem?_take_of_lt (by omega), List.getElem?_drop] at hz
    rw [← hz]; congr 1; omega
section
variable {P : Program} {w : World} {b : Nat} {t e : TypeId} {v : Value} {H : Type} {enc : TypeId × Value → H} {d : DataW H} {ps : List MemPlace}
theorem open_structs (ht : P.underlying t = some (.slice e)) {q : IntKind} (he : Ints P q e) (hv : Value.okWide P w .any b t v) (h0 : DataW.Trod enc P w 0 (fun _ => true) true t v d ps) :
    v = .slice none 0 0 ∨ ∃ bb off len cap cs T fz, v = .slice (some ⟨bb, off, none⟩) len cap ∧ len ≤ cap ∧ cap ≤ maxLen ∧ w.heap[bb]? = some (.cells cs T fz) ∧ ∀ k j, k < len → j < P.cellsOf e → ∃ z : Int, cs[off + k * P.cellsOf e + j]? = some (.int q z) ∧ (Lit.int q z).wf = true := by
  rcases slice_place ht hv with rfl | ⟨bb, off, len, cap, cs, T, fz, rfl, hb⟩
  · exact .inl rfl
  obtain ⟨fuel, hf⟩ := h0
  refine .inr ?_
  rcases Go.Deep.open_slice ht hf with ⟨h1, _⟩ | ⟨a, len', cap', m, n, D, Pl, h1, _, hl, hm, hmm, _, hx⟩
  · simp [Value.cells] at h1
  simp only [Value.cells, List.cons.injEq, Value.slice.injEq, and_true] at h1
  obtain ⟨h1, rfl, rfl⟩ := h1
  injection h1 with h1
  subst h1
  refine ⟨bb, off, len, cap, cs, T, fz, rfl, hl, hm, hb, fun k j hq hj => ?_⟩
  have hqm : k < m := by rw [hmm]; simp only [if_true]; omega
  obtain ⟨cs', h2, h3⟩ := hx k hqm
  obtain ⟨_, hlen, hcell⟩ := World.cells?_some h2
  obtain ⟨z, hz, hw⟩ := he.out h3 j hj
  refine ⟨z, ?_, hw⟩
  have h6 := hcell j hj
  rw [hz] at h6
  have e1 : ((⟨bb, off, none⟩ : Addr).add (k * P.cellsOf e)).add j = ⟨bb, off + k * P.cellsOf e + j, none⟩ := by
    unfold Addr.add
    by_cases h8 : k * P.cellsOf e = 0 <;> by_cases h9 : j = 0 <;> simp [h8, h9]
  rw [e1] at h6
  simpa [World.cell?, hb] using h6
end
theorem ex_build0 {P : Program} {E : Env} {f : Nat → Value} {L : List Blk} {ty : TypeId} {pos : String} {after : Array Edge} {d : Nat} {t et : TypeId} {n s : Nat} {ag : Bool} {z : List Value} (ht : Und P t (.array n et)) (hT : tyOf P et = some (ag, s)) (hz : zeroOf P t = some z) : Ex P E f L ⟨some d, .build t #[], ty, pos, after, none⟩ (.agg z.toArray) := .mk fun w _ => by
  obtain ⟨v, hv1, hv2⟩ := run_zeroT (P := P) (w := w) hz
  simp [execOp, Instr.build, hv1, hv2, run_underlying ht.eq, run_sizeT hT, Instr.fill]
end Go.Sym
namespace Go.Proofs.Ytomgkmoecbnddaa
open Go.Sym
theorem cells5 : Try.prog.cellsOf 5 = 1 := by kernel_rfl
theorem cells50 : Try.prog.cellsOf 50 = 4 := by kernel_rfl
theorem ints5 : Ints Try.prog .u8 5 := .int Try.underlying5 cells5
theorem ints50 : Ints Try.prog .u8 50 := .struct Try.underlying50 fun j hj => by
  rw [cells50] at hj
  match j, hj with
  | 0, _ => exact ⟨0, _, rfl, by decide, by simp [cells5], ints5⟩
  | 1, _ => exact ⟨1, _, rfl, by decide, by simp [cells5], ints5⟩
  | 2, _ => exact ⟨2, _, rfl, by decide, by simp [cells5], ints5⟩
  | 3, _ => exact ⟨3, _, rfl, by decide, by simp [cells5], ints5⟩
theorem u8_wf {z : Int} (h : (Lit.int .u8 z).wf = true) : 0 ≤ z ∧ z < 256 := by
  have h1 : (decide (IntKind.u8.min ≤ z) && decide (z ≤ IntKind.u8.max)) = true := h
  rw [Bool.and_eq_true, decide_eq_true_eq, decide_eq_true_eq] at h1
  have e1 : IntKind.u8.min = 0 := by decide
  have e2 : IntKind.u8.max = 255 := by decide
  rw [e1, e2] at h1
  omega
def upB (s : Nat → Bool) (a : Nat) (v : Bool) : Nat → Bool := fun k => if k = a then v else s k
def bl (s : Nat → Bool) : List Value := [.bool (s 0), .bool (s 1), .bool (s 2), .bool (s 3), .bool (s 4), .bool (s 5), .bool (s 6), .bool (s 7), .bool (s 8), .bool (s 9), .bool (s 10), .bool (s 11), .bool (s 12)]
theorem bl_get (s : Nat → Bool) {k : Nat} (h : k < 13) : (bl s)[0 + k * 1]? = some (.bool (s k)) := by
  match k, h with
  | 0, _ => rfl
  | 1, _ => rfl
  | 2, _ => rfl
  | 3, _ => rfl
  | 4, _ => rfl
  | 5, _ => rfl
  | 6, _ => rfl
  | 7, _ => rfl
  | 8, _ => rfl
  | 9, _ => rfl
  | 10, _ => rfl
  | 11, _ => rfl
  | 12, _ => rfl
theorem bl_set (s : Nat → Bool) {k : Nat} (v : Bool) (h : k < 13) : bl (upB s k v) = (bl s).take (0 + k * 1) ++ [.bool v] ++ (bl s).drop (0 + k * 1 + [Value.bool v].length) := by
  match k, h with
  | 0, _ => rfl
  | 1, _ => rfl
  | 2, _ => rfl
  | 3, _ => rfl
  | 4, _ => rfl
  | 5, _ => rfl
  | 6, _ => rfl
  | 7, _ => rfl
  | 8, _ => rfl
  | 9, _ => rfl
  | 10, _ => rfl
  | 11, _ => rfl
  | 12, _ => rfl
theorem mod12 (z : Int) (h : 0 ≤ z) : ∃ a : Nat, 1 + z.tmod 12 = (a : Int) ∧ 1 ≤ a ∧ a ≤ 12 := by
  have h1 := Int.tmod_nonneg 12 h
  have h2 := Int.tmod_lt_of_pos z (show (0:Int) < 12 by decide)
  exact ⟨(1 + z.tmod 12).toNat, by omega, by omega, by omega⟩
theorem mod10 (z : Int) (h : 0 ≤ z) : ∃ a : Int, z.tmod 10 = a ∧ 0 ≤ a ∧ a ≤ 9 := by
  have h1 := Int.tmod_nonneg 10 h
  have h2 := Int.tmod_lt_of_pos z (show (0:Int) < 10 by decide)
  exact ⟨_, rfl, by omega, by omega⟩
theorem GRep.ok {K : Nat} {g : Gr} {p : Nat} {L : List Blk} (h : GRep K g p L) (hK : K ≤ 4000) : GOk K g ∧ SymG g := by
  rcases h with ⟨hg, _⟩ | ⟨M, _, _, hI, hS⟩
  · have h0 := (inv_new 0 0 0 g.most fun _ => ⟨0, 0, 0, #[], 0, #[], 0, .pointer none, []⟩).n.gok
    rw [← hg] at h0
    refine ⟨⟨h0.nd, h0.lv, h0.en, h0.ci, h0.co, h0.em, fun n hn => by have := h0.rg n hn; omega, by have := h0.sz; omega⟩, ?_⟩
    rw [hg]; intro m hm; cases hm
  · exact ⟨hI.n.gok, hS⟩
end Go.Proofs.Ytomgkmoecbnddaa
