/- RdD: arguments of any type: their cells, and that they read again as they did. -/
import Derived.Test.YtomgkmoecbnddaaRdC
import Derived.WideKeyArgs
import Derived.Below
import Derived.OpenShut
set_option linter.unusedVariables false
set_option linter.unusedSimpArgs false
set_option linter.unnecessarySimpa false
namespace Go.Rc
open Go Go.Sym Go.ChangeShapes Go.WideShapes
section
variable {P : Program} {w : World} {r : Reach} {b : Nat} {t : TypeId} {v : Value}
theorem cell_one (h : Cell.okWide P w r b t v) : v.cells = #[v] ∧ v.oneCell' = true := by
  cases v <;> first | exact ⟨rfl, rfl⟩ | (exfalso; revert h; unfold Cell.okWide Cell.ok; cases P.underlying t with | none => exact id | some d => cases d <;> exact id)
theorem cell_int {k : IntKind} (ht : P.underlying t = some (.int k)) (h : Cell.okWide P w r b t v) : ∃ z : Int, v = .int k z := by
  revert h
  unfold Cell.okWide Cell.ok
  rw [ht]
  cases v <;> first | exact fun h => h.elim | (intro h; exact ⟨_, by rw [h.1]⟩)
theorem cell_bool (ht : P.underlying t = some .bool) (h : Cell.okWide P w r b t v) : ∃ z : Bool, v = .bool z := by
  revert h
  unfold Cell.okWide Cell.ok
  rw [ht]
  cases v <;> first | exact fun h => h.elim | (intro h; exact ⟨_, rfl⟩)
theorem rel_any {σ : Sg} (h : Cell.okWide P w r b t v) : Rel σ vAny v := .one (cell_one h).1 (cell_one h).2
theorem rel_rest {σ : Sg} {m : Nat} (hm : 0 < m) (ht : P.underlying t = some (.int .i64)) (h : Cell.okWide P w r b t v) : ∃ i, i < m ∧ Rel σ (vRes m i) v := by
  obtain ⟨z, rfl⟩ := cell_int ht h
  have h0 := Int.emod_nonneg z (b := (m : Int)) (by omega)
  have h1 := Int.emod_lt_of_pos z (b := (m : Int)) (by omega)
  obtain ⟨i, hi⟩ := Int.eq_ofNat_of_zero_le h0
  exact ⟨i, by omega, .res hi⟩
/-- the cells of a struct -/
theorem struct_cells {fs : Array Field} {ts : List TypeId} (ht : P.underlying t = some (.struct fs)) (hts : P.cellTypes P.depth t = some ts) (hn : P.cellsOf t = ts.length) (h : Value.okWide P w r b t v) :
    ∃ cl : List Value, v = .agg cl.toArray ∧ cl.length = ts.length ∧ ∀ (i : Nat) (c : Value) (u : TypeId), cl[i]? = some c → ts[i]? = some u → Cell.okWide P w r b u c := by
  unfold Value.okWide at h
  rw [ht] at h
  obtain ⟨cs, rfl, hs, ts', h1, _, h3⟩ := h
  rw [hts] at h1
  injection h1 with h1
  subst h1
  refine ⟨cs.toList, by simp, by simp [hs, hn], fun i c u hc hu => ?_⟩
  obtain ⟨u', h4, h5⟩ := h3 i c (by simpa using hc)
  have hlt := (List.getElem?_eq_some_iff.1 hu).1
  rw [Nat.mod_eq_of_lt hlt, hu] at h4
  injection h4 with h4
  subst h4
  exact h5
variable {H : Type} {enc : TypeId × Value → H}
theorem Grew.same {w w' : World} (g : Grew w w') {p : MemPlace} (hp : p.block < w.heap.size) : w.sameAt w' p := by
  have hk : ∀ i : Nat, i < w.heap.size → w'.heap[i]? = w.heap[i]? := fun i hi => by
    have ho : w.heap[i]? = some w.heap[i] := Array.getElem?_eq_getElem hi
    rw [ho]; exact g.2 i _ ho
  cases p with
  | cell b o => exact World.cell?_of_block (w := w) (hk b hp)
  | map b => exact hk b hp
theorem args_again (hl : laidOutB P = true) {w w' : World} (g : Grew w w') : ∀ {ts : List TypeId} {vs : List Value} {ds : List (DataW H)} {ps : List MemPlace}, DataW.TrodAll enc P w 0 (fun _ => true) true ts vs ds ps →
    (∀ t ∈ ts, P.readableRec t = true ∧ t < P.types.size) → (∀ x ∈ ps, x.block < w.heap.size) → ∀ sp : Nat → Bool, (∀ x ∈ ps, sp x.block = true) → DataW.TrodAll enc P w' 0 sp true ts vs ds ps
  | [], _, _, _, h, _, _, sp, _ => by
    obtain ⟨rfl, rfl, rfl⟩ := trodAll_nil h
    exact trodAll_mk0
  | t :: ts, _, _, _, h, hr, hlt, sp, hs => by
    obtain ⟨v, vs, d, ds, p, q, rfl, rfl, rfl, h1, h2⟩ := trodAll_cons h
    have ht := hr t (List.mem_cons_self ..)
    exact ⟨p, q, WideElems.Trod_stays hl ht.1 ht.2 h1 (fun x hx => g.same (hlt x (List.mem_append_left _ hx))) (fun x hx => hs x (List.mem_append_left _ hx)),
      args_again hl g h2 (fun u hu => hr u (List.mem_cons_of_mem _ hu)) (fun x hx => hlt x (List.mem_append_right _ hx)) sp (fun x hx => hs x (List.mem_append_right _ hx)), rfl⟩
/-- what stood there stands there still: places, and what no string shares -/
theorem Grew.kept {w w' : World} (g : Grew w w') (may : MemPlace → Prop) : w.keptBut w' may := by
  obtain ⟨henv, hk⟩ := g
  injection henv with h1 h2
  refine ⟨h1, h2, fun i hi => ?_⟩
  have ho : w.heap[i]? = some w.heap[i] := Array.getElem?_eq_getElem hi
  rw [hk i _ ho, ho]
  cases w.heap[i] <;> first | exact ⟨rfl, rfl, rfl, fun _ _ => rfl⟩ | exact .inr ⟨rfl, rfl⟩ | rfl
/-- the end of a law's walk: the arguments read as they did, the heap has grown at most -/
theorem post_grew {f : Func} {s : ChangeSpec} {apart fresh handsOn : Bool} {w w' : World} {args : Array Value} {v : Value} {ds gs : List (DataW H)} {before pa pv : List MemPlace}
    (hW : DataW.Whole enc P f.params.toList s.vars apart w args.toList ds gs before)
    (hres : ∀ (b : Nat), DataW.TrodAll enc P w' b (fun _ => false) handsOn f.resultTypes.toList (v.resultList f.resultTypes.size) (s.fn H (ds ++ gs)).results [])
    (hargs : ∀ sp : Nat → Bool, (∀ p ∈ before, sp p.block = true) → DataW.TrodAll enc P w' 0 sp true f.params.toList args.toList (s.fn H (ds ++ gs)).args pa)
    (hvars : ∀ sp : Nat → Bool, DataW.TrodVars enc P w' sp s.vars (s.fn H (ds ++ gs)).vars pv) (g : Grew w w') :
    s.post enc P f apart fresh handsOn false w args v w' :=
  ⟨ds, gs, before, [], pa, pv, hW, hres _, hargs _ fun p hp => decide_eq_true (hW.lt p hp), hvars _, g.kept _, fun e => by cases e⟩
end
end Go.Rc
