/- Conflict: an argument that is a slice of structs of bytes. -/
import Derived.Test.YtomgkmoecbnddaaS4
set_option linter.unusedVariables false
set_option linter.unusedSimpArgs false
set_option linter.unnecessarySimpa false
namespace Go.Sym
open Go Go.ChangeShapes Go.WideShapes

/-- all cells of type t are ints -/
structure Ints (P : Program) (q : IntKind) (t : TypeId) : Prop where
  out : ∀ {H : Type} {enc : TypeId × Value → H} {w : World} {base : Nat} {spare : Nat → Bool} {held : Bool} {fuel : Nat} {cs : List Value} {x : DataW H × List MemPlace}, DataW.trod enc P w base spare held fuel t cs = some x →
    ∀ j, j < P.cellsOf t → ∃ z : Int, cs[j]? = some (.int q z) ∧ (Lit.int q z).wf = true
theorem Ints.int {P : Program} {q : IntKind} {t : TypeId} (ht : P.underlying t = some (.int q)) (hc : P.cellsOf t = 1) : Ints P q t where
  out h j hj := by
    obtain ⟨z, rfl, _, hw⟩ := DataW.trod_int ht h
    obtain rfl : j = 0 := by omega
    exact ⟨z, rfl, hw⟩
theorem Ints.struct {P : Program} {q : IntKind} {t : TypeId} {fs : Array Field} (ht : P.underlying t = some (.struct fs)) (hall : ∀ j, j < P.cellsOf t → ∃ (i : Nat) (f : Field), fs[i]? = some f ∧ f.offset ≤ j ∧ j < f.offset + P.cellsOf f.type ∧ Ints P q f.type) : Ints P q t where
  out h j hj := by
    obtain ⟨xs, n, _, _, hl, hxl, hx⟩ := DataW.trod_struct ht h
    obtain ⟨i, f, hf, h1, h2, hI⟩ := hall j hj
    have h3 := hx i f hf
    have hi : i < xs.length := by rw [hxl]; exact (Array.getElem?_eq_some_iff.1 hf).1
    rw [List.getElem?_eq_getElem hi] at h3
    obtain ⟨z, hz, hw⟩ := hI.out h3 (j - f.offset) (by omega)
    refine ⟨z, ?_, hw⟩
    rw [List.getElem?_take_of_lt (by omega), List.getElem?_drop] at hz
    rw [← hz]; congr 1; omega
section
variable {P : Program} {w : World} {b : Nat} {t e : TypeId} {v : Value} {H : Type} {enc : TypeId × Value → H} {d : DataW H} {ps : List MemPlace}
theorem open_structs (ht : P.underlying t = some (.slice e)) {q : IntKind} (he : Ints P q e) (hv : Value.okWide P w .any b t v) (h0 : DataW.Trod enc P w 0 (fun _ => true) true t v d ps) :
    v = .slice none 0 0 ∨ ∃ bb off len cap cs T fz, v = .slice (some ⟨bb, off, none⟩) len cap ∧ len ≤ cap ∧ cap ≤ maxLen ∧ w.heap[bb]? = some (.cells cs T fz) ∧ ∀ k j, k < len → j < P.cellsOf e → ∃ z : Int, cs[off + k * P.cellsOf e + j]? = some (.int q z) ∧ (Lit.int q z).wf = true := by
  rcases slice_place ht hv with rfl | ⟨bb, off, len, cap, cs, T, fz, rfl, hb⟩
  · exact .inl rfl
  obtain ⟨fuel, hf⟩ := h0
  refine .inr ?_
  rcases Go.Deep.open_slice ht hf with ⟨h1, _⟩ | ⟨a, len', cap', m, n, D, Pl, h1, _, hl, hm, hmm, _, hx⟩
  · simp [Value.cells] at h1
  simp only [Value.cells, List.cons.injEq, Value.slice.injEq, and_true] at h1
  obtain ⟨h1, rfl, rfl⟩ := h1
  injection h1 with h1
  subst h1
  refine ⟨bb, off, len, cap, cs, T, fz, rfl, hl, hm, hb, fun k j hq hj => ?_⟩
  have hqm : k < m := by rw [hmm]; simp only [if_true]; omega
  obtain ⟨cs', h2, h3⟩ := hx k hqm
  obtain ⟨_, hlen, hcell⟩ := World.cells?_some h2
  obtain ⟨z, hz, hw⟩ := he.out h3 j hj
  refine ⟨z, ?_, hw⟩
  have h6 := hcell j hj
  rw [hz] at h6
  have e1 : ((⟨bb, off, none⟩ : Addr).add (k * P.cellsOf e)).add j = ⟨bb, off + k * P.cellsOf e + j, none⟩ := by
    unfold Addr.add
    by_cases h8 : k * P.cellsOf e = 0 <;> by_cases h9 : j = 0 <;> simp [h8, h9]
  rw [e1] at h6
  simpa [World.cell?, hb] using h6
end
end Go.Sym
namespace Go.Proofs.Ytomgkmoecbnddaa
open Go.Sym
theorem askedNil_tri : Tri Try.prog 5 #[.slice none 0 0] [] fun v L => v = .bool true ∧ L = [] := by
  have f_mixed := mixed; have f_by50 := by50; have f_en10 := en10; have f_en12 := en12; have f_en13 := en13; have f_en14 := en14; have f_en15 := en15; have f_en16 := en16; have f_en17 := en17; have f_en9 := en9; have f_fo50_0 := fo50_0; have f_fo50_1 := fo50_1; have f_fo50_2 := fo50_2; have f_fo50_3 := fo50_3; have f_ty4 := ty4; have f_ty47 := ty47; have f_ty48 := ty48; have f_ty5 := ty5; have f_ty50 := ty50; have f_un_3 : Und Try.prog 3 _ := ⟨Try.underlying3⟩; have f_un_47 : Und Try.prog 47 _ := ⟨Try.underlying47⟩; have f_un_48 : Und Try.prog 48 _ := ⟨Try.underlying48⟩; have f_un_5 : Und Try.prog 5 _ := ⟨Try.underlying5⟩; have f_zero4 := zero4; have f_zero48 := zero48; have f_zero50 := zero50; have f_zv4 := zv4; have f_zv50 := zv50
  refine tri_intro (args := [_]) Try.func5 rfl Try.ntmps5 rfl (rs := _) rfl rfl fun E R => ?_
  simp only [fr, List.nil_append]
  (apply sc_seq; apply sc_region; (apply so_ex; (apply ex_assign; ((exact Ev.const))); exact rfl); apply so_nil; apply nm_then; apply sc_seq; apply sc_region; (apply so_callq; (exact Ev.func); (focus (exact EvL.nil)); (focus (repeat (first | exact App.nil | apply App.cons))); assumption; exact sanity_tri; (exact sel_); exact rfl); (apply so_ex; (apply ex_assign; (exact ev_)); exact rfl); apply so_nil; apply nm_then; (apply sc_seq); (apply sc_region))
  (apply so_call; (exact Ev.func); (focus ((apply EvL.cons; (exact Ev.const)); exact EvL.nil)); (focus (repeat (first | exact App.nil | apply App.cons))); assumption; (exact newR_tri (most := 2)); (exact sel_); exact rfl)
  rintro v L1 ⟨p, rfl, hR⟩
  ((apply so_ex; (apply ex_assign; (exact ev_)); exact rfl); apply so_nil; apply nm_then; apply sc_seq; apply sc_region; (apply so_ex; (apply ex_build0; assumption; assumption; assumption); exact rfl); (apply so_alloc; assumption; exact rfl; intro _); (apply so_store; (exact ev_); (exact ev_); assumption; exact rfl; exact rfl; exact rfl; (focus (repeat (first | exact Turn.here | apply Turn.there | apply Turn.pre))); (focus (repeat (first | exact SetSub.nil | apply SetSub.take | apply SetSub.drop)))); apply so_nil; apply nm_then; apply sc_seq; apply sc_region; (apply so_ex; (apply ex_build0; assumption; assumption; assumption); exact rfl); (apply so_alloc; assumption; exact rfl; intro _); (apply so_store; (exact ev_); (exact ev_); assumption; exact rfl; exact rfl; exact rfl; (focus (repeat (first | exact Turn.here | apply Turn.there | apply Turn.pre))); (focus (repeat (first | exact SetSub.nil | apply SetSub.take | apply SetSub.drop)))); apply so_nil; apply nm_then; apply sc_seq; apply sc_region; (apply so_ex; (apply ex_assign; ((exact Ev.const))); exact rfl); apply so_nil; apply nm_then; (apply sc_seq); apply sc_seq; apply sc_region; (apply so_ex; (apply ex_assign; ((exact Ev.const))); exact rfl); apply so_nil; apply nm_then; (apply sc_block))
  refine sc_loop (fun k f L => At f 0 (.slice none 0 0) ∧ At f 3 (.bool true) ∧ At f 8 (.int .i64 0) ∧ Held L [] R) 0 ⟨(by apply Ev.at; (exact ev_)), (by apply Ev.at; (exact ev_)), (by apply Ev.at; (exact ev_)), (by apply held; (exact sel_); (exact appb_))⟩ ?_
  rintro k f L ⟨a0, a3, a8, ⟨G, hG⟩⟩
  refine sc_perm hG ?_
  simp only [List.nil_append]
  ((apply sc_seq); apply sc_seq; apply sc_region; (apply so_ex; (apply ex_move; (exact ev_)); exact rfl); (apply so_ex; (apply ex_move; (exact ev_)); exact rfl); (apply so_ex; (apply ex_len_slice; (exact ev_); assumption); exact rfl); (apply so_ex; (apply ex_lss_f; (exact ev_); (exact ev_); (first | assumption | omega)); exact rfl); (apply so_ex; (apply ex_move; (exact ev_)); exact rfl); (apply so_skip; exact rfl; (exact ev_); exact rfl; exact rfl; exact rfl); (apply so_skip; exact rfl; (exact ev_); exact rfl; exact rfl; exact rfl); (apply so_ex; (apply ex_pick_f; (exact ev_); ((exact Ev.const))); exact rfl); apply so_nil; apply nm_then; (apply sc_cond_false; (exact ev_)); (apply sc_exit); (apply et_then); (apply et_then); (apply et_hit); (apply nm_then); apply sc_seq; apply sc_region; (apply so_ex; (apply ex_move; (exact ev_)); exact rfl); (apply so_ex; (apply ex_assign; (exact ev_)); exact rfl); apply so_nil; apply nm_then; (apply sc_ret); (apply ret_ok; (focus ((apply Res.tmp; (exact ev_)); exact Res.nil)); (exact ⟨rfl, rfl⟩); (exact sel_); (exact appb_)))
theorem cells5 : Try.prog.cellsOf 5 = 1 := by kernel_rfl
theorem cells50 : Try.prog.cellsOf 50 = 4 := by kernel_rfl
theorem ints5 : Ints Try.prog .u8 5 := .int Try.underlying5 cells5
theorem ints50 : Ints Try.prog .u8 50 := .struct Try.underlying50 fun j hj => by
  rw [cells50] at hj
  match j, hj with
  | 0, _ => exact ⟨0, _, rfl, by decide, by simp [cells5], ints5⟩
  | 1, _ => exact ⟨1, _, rfl, by decide, by simp [cells5], ints5⟩
  | 2, _ => exact ⟨2, _, rfl, by decide, by simp [cells5], ints5⟩
  | 3, _ => exact ⟨3, _, rfl, by decide, by simp [cells5], ints5⟩
theorem u8_wf {z : Int} (h : (Lit.int .u8 z).wf = true) : 0 ≤ z ∧ z < 256 := by
  have h1 : (decide (IntKind.u8.min ≤ z) && decide (z ≤ IntKind.u8.max)) = true := h
  rw [Bool.and_eq_true, decide_eq_true_eq, decide_eq_true_eq] at h1
  have e1 : IntKind.u8.min = 0 := by decide
  have e2 : IntKind.u8.max = 255 := by decide
  rw [e1, e2] at h1
  omega
end Go.Proofs.Ytomgkmoecbnddaa
