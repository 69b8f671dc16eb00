/- SymFin: from a contract over blocks to what a law's shell asks for: the world has at most new blocks; slices.Sort as a contract; a struct's cells. -/
import Derived.Test.YtfkpjnomfmjplaaMore
import Derived.RowKit3
import Derived.WideKeyArgs
import Derived.Below
import Derived.OpenShut
import Derived.Sort.Grow
import Derived.Deep.Slices
set_option linter.unusedVariables false
set_option linter.unusedSimpArgs false
set_option linter.unnecessarySimpa false
namespace Go.Sym
open Go Go.ChangeShapes Go.WideShapes
def Grew (w w' : World) : Prop := (w'.os, w'.output) = (w.os, w.output) ∧ ∀ (i : Nat) (o : Obj), w.heap[i]? = some o → w'.heap[i]? = some o
/-- all blocks of a world -/
def allB (w : World) : List Blk := (List.range w.heap.size).filterMap fun i => (w.heap[i]?).map fun o => (i, o)
theorem mem_allB {w : World} {x : Blk} : x ∈ allB w ↔ w.heap[x.1]? = some x.2 := by
  unfold allB
  rw [List.mem_filterMap]
  constructor
  · rintro ⟨i, _, h⟩
    cases ho : w.heap[i]? with
    | none => rw [ho] at h; cases h
    | some o => rw [ho] at h; simp at h; subst h; exact ho
  · intro h
    refine ⟨x.1, List.mem_range.2 (Array.getElem?_eq_some_iff.1 h).1, ?_⟩
    rw [h]; rfl
theorem allB_nodup (w : World) : ((allB w).map (·.1)).Nodup := by
  have h : (allB w).map (·.1) = (List.range w.heap.size).filter fun i => (w.heap[i]?).isSome := by
    unfold allB
    generalize List.range w.heap.size = l
    induction l with
    | nil => rfl
    | cons a l ih =>
      rw [List.filterMap_cons, List.filter_cons]
      cases w.heap[a]? with
      | none => simpa using ih
      | some o => simpa using ih
  rw [h]
  exact List.Pairwise.filter _ List.nodup_range
theorem hp_allB {w : World} : HP (w.os, w.output) w (allB w) := ⟨rfl, fun p hp => mem_allB.1 hp, allB_nodup w⟩
theorem grew_of_hp {w w' : World} {pre R L : List Blk} (hR : (allB w).Perm (pre ++ R)) (hh : HP (w.os, w.output) w' (L ++ R)) (hs : ∀ x ∈ pre, x ∈ L) : Grew w w' :=
  ⟨hh.env, fun i o ho => by
    rcases List.mem_append.1 (hR.mem_iff.1 (mem_allB.2 ho : (i, o) ∈ allB w)) with h | h
    · exact hh.get (List.mem_append_left _ (hs _ h))
    · exact hh.get (List.mem_append_right _ h)⟩
section
variable {P : Program} {w : World} {r : Reach} {b : Nat} {t : TypeId} {v : Value}
variable {H : Type} {enc : TypeId × Value → H}
theorem Grew.same {w w' : World} (g : Grew w w') {p : MemPlace} (hp : p.block < w.heap.size) : w.sameAt w' p := by
  have hk : ∀ i : Nat, i < w.heap.size → w'.heap[i]? = w.heap[i]? := fun i hi => by
    have ho : w.heap[i]? = some w.heap[i] := Array.getElem?_eq_getElem hi
    rw [ho]; exact g.2 i _ ho
  cases p with
  | cell b o => exact World.cell?_of_block (w := w) (hk b hp)
  | map b => exact hk b hp
theorem args_again (hl : laidOutB P = true) {w w' : World} (g : Grew w w') : ∀ {ts : List TypeId} {vs : List Value} {ds : List (DataW H)} {ps : List MemPlace}, DataW.TrodAll enc P w 0 (fun _ => true) true ts vs ds ps →
    (∀ t ∈ ts, P.readableRec t = true ∧ t < P.types.size) → (∀ x ∈ ps, x.block < w.heap.size) → ∀ sp : Nat → Bool, (∀ x ∈ ps, sp x.block = true) → DataW.TrodAll enc P w' 0 sp true ts vs ds ps
  | [], _, _, _, h, _, _, sp, _ => by
    obtain ⟨rfl, rfl, rfl⟩ := trodAll_nil h
    exact trodAll_mk0
  | t :: ts, _, _, _, h, hr, hlt, sp, hs => by
    obtain ⟨v, vs, d, ds, p, q, rfl, rfl, rfl, h1, h2⟩ := trodAll_cons h
    have ht := hr t (List.mem_cons_self ..)
    exact ⟨p, q, WideElems.Trod_stays hl ht.1 ht.2 h1 (fun x hx => g.same (hlt x (List.mem_append_left _ hx))) (fun x hx => hs x (List.mem_append_left _ hx)),
      args_again hl g h2 (fun u hu => hr u (List.mem_cons_of_mem _ hu)) (fun x hx => hlt x (List.mem_append_right _ hx)) sp (fun x hx => hs x (List.mem_append_right _ hx)), rfl⟩
/-- what stood there stands there still: places, and what no string shares -/
theorem Grew.kept {w w' : World} (g : Grew w w') (may : MemPlace → Prop) : w.keptBut w' may := by
  obtain ⟨henv, hk⟩ := g
  injection henv with h1 h2
  refine ⟨h1, h2, fun i hi => ?_⟩
  have ho : w.heap[i]? = some w.heap[i] := Array.getElem?_eq_getElem hi
  rw [hk i _ ho, ho]
  cases w.heap[i] <;> first | exact ⟨rfl, rfl, rfl, fun _ _ => rfl⟩ | exact .inr ⟨rfl, rfl⟩ | rfl
/-- the end of a law's walk: the arguments read as they did, the heap has grown at most -/
theorem post_grew {f : Func} {s : ChangeSpec} {apart fresh handsOn : Bool} {w w' : World} {args : Array Value} {v : Value} {ds gs : List (DataW H)} {before pa pv : List MemPlace}
    (hW : DataW.Whole enc P f.params.toList s.vars apart w args.toList ds gs before)
    (hres : ∀ (b : Nat), DataW.TrodAll enc P w' b (fun _ => false) handsOn f.resultTypes.toList (v.resultList f.resultTypes.size) (s.fn H (ds ++ gs)).results [])
    (hargs : ∀ sp : Nat → Bool, (∀ p ∈ before, sp p.block = true) → DataW.TrodAll enc P w' 0 sp true f.params.toList args.toList (s.fn H (ds ++ gs)).args pa)
    (hvars : ∀ sp : Nat → Bool, DataW.TrodVars enc P w' sp s.vars (s.fn H (ds ++ gs)).vars pv) (g : Grew w w') :
    s.post enc P f apart fresh handsOn false w args v w' :=
  ⟨ds, gs, before, [], pa, pv, hW, hres _, hargs _ fun p hp => decide_eq_true (hW.lt p hp), hvars _, g.kept _, fun e => by cases e⟩
end
/-! ### an argument that is a slice of arrays of ints -/
section
variable {P : Program} {w : World} {b : Nat} {t e i : TypeId} {k : Nat} {v : Value} {H : Type} {enc : TypeId × Value → H} {d : DataW H} {ps : List MemPlace}
theorem slice_place (ht : P.underlying t = some (.slice e)) (hv : Value.okWide P w .any b t v) : v = .slice none 0 0 ∨ ∃ bb off len cap cs T fz, v = .slice (some ⟨bb, off, none⟩) len cap ∧ w.heap[bb]? = some (.cells cs T fz) := by
  unfold Value.okWide at hv
  rw [ht] at hv
  simp only at hv
  unfold Cell.okWide at hv
  rw [ht] at hv
  cases v with
  | slice p len cap =>
    simp only at hv
    unfold Cell.ok at hv
    rw [ht] at hv
    cases p with
    | none =>
      simp only at hv
      split at hv
      all_goals first | exact .inl rfl | exact hv.elim | (simp_all)
    | some a =>
      simp only at hv
      obtain ⟨_, _, _, hsp, row, cells, hsh, _⟩ := hv
      obtain ⟨bb, off, sp⟩ := a
      simp only at hsp hsh
      subst hsp
      unfold World.shape? at hsh
      split at hsh
      · rename_i cs T fz hb
        exact .inr ⟨bb, off, len, cap, cs, T, fz, rfl, hb⟩
      · cases hsh
  | _ => exact absurd hv (by simp [Cell.ok, ht])
end
/-! ### slices.Sort over ints: from the library's contract -/
section
open Go.Sort Go.RowKit
theorem sort_tri {P : Program} {f : FuncId} (hsort : ∀ (blk off cap : Nat) (zs : List Int) (w : World), Holds (Value.int .i64) w blk off zs.toArray → blk < w.heap.size → zs.length < 4611686018427387904 →
      Calls P f #[.slice (some ⟨blk, off, none⟩) zs.length cap] w fun e w' => e = .returned (.tuple #[]) ∧ ∃ n os, w' = grow (putRow (Value.int .i64) (Sort.ahead w n) blk off (zs.mergeSort fun x y => decide (x ≤ y)).toArray) os)
    {b cap : Nat} {et : TypeId} {zs : List Int} {junk : List Value} (hz : zs.length < 4611686018427387904) :
    Tri P f #[.slice (some ⟨b, 0, none⟩) zs.length cap] [(b, .cells (zs.map (Value.int .i64) ++ junk).toArray et)] fun v L => v = .tuple #[] ∧ L = [(b, .cells ((zs.mergeSort fun x y => decide (x ≤ y)).map (Value.int .i64) ++ junk).toArray et)] := .mk fun E R w hh => by
  have hb : w.heap[b]? = some (.cells (zs.map (Value.int .i64) ++ junk).toArray et (0, 0)) := hh.get (by simp)
  have hlt := (Array.getElem?_eq_some_iff.1 hb).1
  have hH : Holds (Value.int .i64) w b 0 zs.toArray := fun j hj => by
    have hj : j < zs.length := by simpa using hj
    refine ⟨?_, ?_⟩
    · rw [Nat.zero_add, cell_of hb, List.getElem?_append_left (by simpa using hj), List.getElem?_map, List.getElem?_eq_getElem hj]
      simp [hj]
    · simp [World.frozen?, hb]
  refine (hsort b 0 cap zs w hH hlt hz).mono fun e w' ⟨he, n, os, hw⟩ => ⟨_, _, he, ⟨rfl, rfl⟩, ?_⟩
  subst hw
  have hlen : (zs.mergeSort fun x y => decide (x ≤ y)).length = zs.length := by simp
  generalize hm : (zs.mergeSort fun x y => decide (x ≤ y)) = ms at hlen ⊢
  have hput : putCells (Value.int .i64) 0 ms.toArray (zs.map (Value.int .i64) ++ junk).toArray = (ms.map (Value.int .i64) ++ junk).toArray := by
    apply Array.ext_getElem?
    intro k
    simp only [putCells, Array.getElem?_mapIdx, List.getElem?_toArray, List.size_toArray, Nat.zero_le, true_and, Nat.zero_add, Nat.sub_zero]
    by_cases hk : k < zs.length
    · rw [List.getElem?_append_left (by simpa using hk), List.getElem?_append_left (by simp; omega), List.getElem?_map, List.getElem?_map, List.getElem?_eq_getElem hk, List.getElem?_eq_getElem (by omega)]
      simp only [Option.map_some]
      rw [if_pos (by omega)]
      congr 1
      simp [show k < ms.length by omega]
    · rw [List.getElem?_append_right (by simp; omega), List.getElem?_append_right (by simp; omega)]
      simp only [List.length_map, hlen]
      cases junk[k - zs.length]? with
      | none => rfl
      | some y => simp only [Option.map_some]; rw [if_neg (by omega)]
  have hnew : (grow (putRow (Value.int .i64) (Sort.ahead w n) b 0 ms.toArray) os).heap[b]? = some (.cells (ms.map (Value.int .i64) ++ junk).toArray et (0, 0)) := by
    rw [heap_grow_old _ _ (by simpa [putRow, mapBlock, Sort.ahead] using hlt)]
    simp only [putRow, mapBlock, Sort.ahead, Array.getElem?_modify, if_true, hb, Option.map_some, onCells]
    rw [hput]
  refine hh.turn Turn.here rfl hnew fun k hk hks => ?_
  rw [heap_grow_old _ _ (by simpa [putRow, mapBlock, Sort.ahead] using hks)]
  simp only [putRow, mapBlock, Sort.ahead, Array.getElem?_modify]
  rw [if_neg (Ne.symm hk)]
end
end Go.Sym
