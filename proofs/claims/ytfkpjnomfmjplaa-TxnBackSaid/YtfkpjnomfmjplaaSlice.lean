/- SymSlice: slices, over Sym. -/
import Derived.Test.YtfkpjnomfmjplaaMap
import Derived.Laws.AppendOwn
set_option linter.unusedVariables false
set_option linter.unusedSimpArgs false
set_option linter.unnecessarySimpa false
namespace Go.Sym
open Go
set_option linter.unusedSectionVars false

@[irreducible] def bytesT (P : Program) (t : TypeId) : Option Nat := (P.info? t).map (·.bytes)
theorem run_bytesT {P : Program} {t : TypeId} {k : Nat} (h : bytesT P t = some k) : ∃ i, P.info? t = some i ∧ i.bytes = k := by
  unfold bytesT at h
  simpa using h

theorem zeroCells_len (z : Array Value) (k : Nat) : (Builtin.zeroCells z k).size = k * z.size := by simp [Builtin.zeroCells]
section
variable {P : Program} {E : Env} {n : Nat} {Q : SPost} {f : Nat → Value} {L : List Blk} {ty : TypeId} {pos : String} {after : Array Edge} {d : Nat}
theorem ex_len_slice {x : Operand} {t et : TypeId} {p : Option Addr} {len cap : Nat} (hx : Ev f x (.slice p len cap)) (ht : Und P t (.slice et)) :
    Ex P E f L ⟨some d, .call ⟨.builtin .len, #[x], #[t]⟩, ty, pos, after, none⟩ (.int .i64 len) := .mk fun w hw => by
  simp [execOp, resolve, hx.eq, invoke, builtin, Builtin.len_, run_underlying ht.eq, goInt]
theorem add_none (b o k : Nat) : (Addr.add ⟨b, o, none⟩ k) = ⟨b, o + k, none⟩ := by cases k <;> simp [Addr.add]
theorem ex_indexAddr {x y : Operand} {t et : TypeId} {b o len cap s i : Nat} {ag : Bool} {j : Int} {q : IntKind} (hx : Ev f x (.slice (some ⟨b, o, none⟩) len cap)) (hy : Ev f y (.int q j)) (ht : Und P t (.slice et)) (hT : tyOf P et = some (ag, s)) (hj : j = (i : Int)) (hi : i < len) :
    Ex P E f L ⟨some d, .indexAddr t x y, ty, pos, after, none⟩ (.pointer (some ⟨b, o + i * s, none⟩)) := .mk fun w hw => by
  subst hj
  have h1 : (0 : Int) ≤ (i : Int) ∧ (i : Int) < (len : Int) := by omega
  simp [execOp, hx.eq, hy.eq, Instr.indexAt, asIntOf, run_underlying ht.eq, h1.2, run_sizeT hT, add_none, hi]
/-- a load out of a row of cells -/
theorem ex_load1r {x : Operand} {t : TypeId} {b k : Nat} {c : List Value} {T : TypeId} {fz : Nat × Nat} {v : Value} (hx : Ev f x (.pointer (some ⟨b, k, none⟩))) (hT : tyOf P t = some (false, 1)) (hm : (b, .cells c.toArray T fz) ∈ L) (hk : c[k]? = some v) :
    Ex P E f L ⟨some d, .load t x, ty, pos, after, none⟩ v := .mk fun w hw => by
  simp [execOp, hx.eq, Instr.loadAt, Instr.sureAddr, run_load1 (P := P) hT (hw.get hm) hk]
theorem ex_loadNr {x : Operand} {t : TypeId} {b k m : Nat} {c r : List Value} {T : TypeId} {fz : Nat × Nat} (hx : Ev f x (.pointer (some ⟨b, k, none⟩))) (hT : tyOf P t = some (true, m)) (hm : (b, .cells c.toArray T fz) ∈ L) (hr : r.length = m) (hk : ∀ j, j < r.length → c[k + j]? = r[j]?) :
    Ex P E f L ⟨some d, .load t x, ty, pos, after, none⟩ (.agg r.toArray) := .mk fun w hw => by
  simp [execOp, hx.eq, Instr.loadAt, Instr.sureAddr, run_loadN (P := P) hT (hw.get hm) hk hr]
/-! ### slices that the program makes -/
theorem so_buildSlice {ops rest : List Oper} {t et : TypeId} {len : Nat} {ps : List (Nat × Operand)} {vs : List (Nat × Value)} {c : List Value} (hv : EvP f ps vs) (hrun : ∀ w, (Instr.buildSlice t len vs.toArray).run P w = .ok (.slice (some ⟨w.heap.size, 0, none⟩) len len) (w.alloc (.cells c.toArray et))) (hd : Nat.blt d n = true)
    (h : ∀ b, SO P E n ops Q rest (upd f d (.slice (some ⟨b, 0, none⟩) len len)) ((b, .cells c.toArray et) :: L)) : SO P E n ops Q (⟨some d, .buildSlice t len ps.toArray, ty, pos, after, none⟩ :: rest) f L := so_turn (by simpa using hd) fun a w hr hh => by
  refine ⟨.value (.slice (some ⟨w.heap.size, 0, none⟩) len len), w.alloc (.cells c.toArray et), ?_, .inr ⟨_, rfl, (h _).out _ _ (hr.put (by simpa [Nat.blt_eq] using hd) _) (hh.alloc _)⟩⟩
  have e : (ps.toArray.map fun (i, x) => (i, evO f x)) = vs.toArray := by rw [List.map_toArray, hv.eq]
  simp only [execOp, e]
  rw [Sem.run_bind, hrun]
  rfl
theorem so_makeSlice {ops rest : List Oper} {t et : TypeId} {x y : Operand} {u v : Value} {len cap : Nat} {c : List Value} (hx : Ev f x u) (hy : Ev f y v) (hrun : ∀ w, (Instr.makeSlice t u v).run P w = .ok (.slice (some ⟨w.heap.size, 0, none⟩) len cap) (w.alloc (.cells c.toArray et))) (hd : Nat.blt d n = true)
    (h : ∀ b, SO P E n ops Q rest (upd f d (.slice (some ⟨b, 0, none⟩) len cap)) ((b, .cells c.toArray et) :: L)) : SO P E n ops Q (⟨some d, .makeSlice t x y, ty, pos, after, none⟩ :: rest) f L := so_turn (by simpa using hd) fun a w hr hh => by
  refine ⟨.value (.slice (some ⟨w.heap.size, 0, none⟩) len cap), w.alloc (.cells c.toArray et), ?_, .inr ⟨_, rfl, (h _).out _ _ (hr.put (by simpa [Nat.blt_eq] using hd) _) (hh.alloc _)⟩⟩
  simp only [execOp, hx.eq, hy.eq]
  rw [Sem.run_bind, hrun]
  rfl

/-- The slice v of elements of size s and type et reads the cells xs; its block stands in H. -/
inductive Row (et : TypeId) (s : Nat) : Value → List Value → List Blk → Prop
  | nil : Row et s (.slice none 0 0) [] []
  | row {b len cap xs junk} : xs.length = len * s → (xs ++ junk).length = cap * s → Row et s (.slice (some ⟨b, 0, none⟩) len cap) xs [(b, .cells (List.toArray (xs ++ junk)) et)]
/-- 'append(x, y...)', where the slice x is the program's own -/
theorem so_append {ops rest : List Oper} {x y : Operand} {t et : TypeId} {ag : Bool} {s by_ m c2 len cap b2 o2 : Nat} {p : Option Addr} {c : List Value} {T2 : TypeId} {fz : Nat × Nat} {xs ys z : List Value} {H R : List Blk} (hx : Ev f x (.slice p len cap)) (hy : Ev f y (.slice (some ⟨b2, o2, none⟩) m c2)) (hrow : Row et s (.slice p len cap) xs H) (hs : Sel L H R)
    (hm2 : (b2, .cells c.toArray T2 fz) ∈ L) (hyl : ys.length = m * s) (hyc : ∀ j, j < ys.length → c[o2 + j]? = ys[j]?)
    (ht : Und P t (.slice et)) (hT : tyOf P et = some (ag, s)) (hz : zeroOf P et = some z) (hzl : z.length = s) (hby : bytesT P et = some by_) (hb : (len + m) * by_ ≤ 140737488355328) (hlm : len + m ≤ 9223372036854775807) (hs1 : Nat.ble 1 s = true) (hone : ys.all (·.oneCell') = true) (hd : Nat.blt d n = true)
    (h : ∀ v' H', Row et s v' (xs ++ ys) H' → (v' = .slice none 0 0 → xs ++ ys = []) → SO P E n ops Q rest (upd f d v') (H' ++ R)) :
    SO P E n ops Q (⟨some d, .call ⟨.builtin .append, #[x, y], #[t, t]⟩, ty, pos, after, none⟩ :: rest) f L := so_turn (by simpa using hd) fun a w hr hh => by
  obtain ⟨i, hi, hib⟩ := run_bytesT hby
  have hs1 : 1 ≤ s := Nat.le_of_ble_eq_true hs1
  have hi2 : i.size = s ∧ ∃ zv, i.zero = some zv ∧ zv.cells = z.toArray := by
    constructor
    · have h1 := run_sizeT (P := P) (w := w) hT
      simp [sizeOf, run_info hi] at h1
      exact h1
    · unfold zeroOf at hz
      cases hzz : i.zero with
      | none => simp [hi, hzz] at hz
      | some zv => simp [hi, hzz] at hz; exact ⟨zv, rfl, by rw [← hz]⟩
  obtain ⟨his, zv, hzv, hzc⟩ := hi2
  have hh2 := hh.perm hs.perm
  have hcell := cell_of (hh.get hm2)
  have hnews : ∀ j u, ys[j]? = some u → w.cell? ((⟨b2, o2, none⟩ : Addr).add j) = some u := fun j u hj => by
    have hlt := (List.getElem?_eq_some_iff.1 hj).1
    rw [add_none, hcell, hyc j hlt, hj]
  have hone' : ∀ u ∈ ys, u.oneCell' = true := by simpa using hone
  -- the operation's run, and what is left
  have fin : ∀ (v' : Value) (w' : World) (H' : List Blk), (Builtin.append_ #[t, t] ty #[.slice p len cap, .slice (some ⟨b2, o2, none⟩) m c2]).run P w = .ok v' w' → HP E w' (H' ++ R) → Row et s v' (xs ++ ys) H' → (v' = .slice none 0 0 → xs ++ ys = []) →
      ∃ nx w', (execOp (evO f) ⟨some d, .call ⟨.builtin .append, #[x, y], #[t, t]⟩, ty, pos, after, none⟩).run P w = .ok nx w' ∧ ((nx = .skip ∧ some d = none ∧ wpList P ops.toArray (up E n Q) rest a w') ∨ ∃ v, nx = .value v ∧ wpList P ops.toArray (up E n Q) rest (a.put (some d) v) w') := by
    intro v' w' H' hrun hp hro hnil
    refine ⟨.value v', w', ?_, .inr ⟨_, rfl, (h v' H' hro hnil).out _ _ (hr.put (by simpa [Nat.blt_eq] using hd) _) hp⟩⟩
    simp [execOp, resolve, hx.eq, hy.eq, invoke, builtin, hrun]
  -- a new block
  have fresh : ∀ cap', len + m ≤ cap' → HP E (w.drew.alloc (.cells (xs.toArray ++ ys.toArray ++ Builtin.zeroCells zv.cells (cap' - (len + m))) et)) ((w.heap.size, .cells (List.toArray (xs ++ ys ++ (Builtin.zeroCells zv.cells (cap' - (len + m))).toList)) et) :: R) := by
    intro cap' _
    have h1 : HP E w R := hh2.sub (List.sublist_append_right _ _)
    have h2 := (HP.drew h1).alloc (.cells (List.toArray (xs ++ ys ++ (Builtin.zeroCells zv.cells (cap' - (len + m))).toList)) et)
    have e : (xs.toArray ++ ys.toArray ++ Builtin.zeroCells zv.cells (cap' - (len + m))) = List.toArray (xs ++ ys ++ (Builtin.zeroCells zv.cells (cap' - (len + m))).toList) := by
      apply Array.ext'; simp
    rw [e]
    exact h2
  have frow : ∀ cap', len + m ≤ cap' → xs.length = len * s → Row et s (.slice (some ⟨w.heap.size, 0, none⟩) (len + m) cap') (xs ++ ys) [(w.heap.size, .cells (List.toArray (xs ++ ys ++ (Builtin.zeroCells zv.cells (cap' - (len + m))).toList)) et)] := by
    intro cap' hc hxl
    refine Row.row (by simp [hxl, hyl, Nat.add_mul]) ?_
    have : zv.cells.size = s := by rw [hzc]; simpa using hzl
    simp only [List.length_append, Array.length_toList, zeroCells_len, hxl, hyl, this, ← Nat.add_mul]
    congr 1; omega
  cases hrow with
  | nil =>
    by_cases hm : m = 0
    · subst hm
      have hys : ys = [] := List.eq_nil_of_length_eq_zero (by simpa using hyl)
      subst hys
      refine fin (.slice none 0 0) w [] ?_ hh2 (by simpa using Row.nil) (by simp)
      simp [Builtin.append_, run_underlying ht.eq, sizeOf, typeInfo, hi, Builtin.lenOf, Builtin.firstCells, loadCells, loadCellsFrom]
    · have hrun := run_append_nil (P := P) w t ty et i zv ht.eq hi hzv ⟨b2, o2, none⟩ m c2 ys (by rw [hyl, his]) hnews (by omega) (by omega) (by rw [hib]; have := hb; simp only [Nat.zero_add] at this; omega)
      have hge := grownCap_ge w m 0 et
      have h1 := fresh (grownCap w m 0 et) (by omega)
      have h2 := frow (grownCap w m 0 et) (by omega) (by simp)
      simp only [Nat.zero_add, List.nil_append, Array.empty_append] at h1 h2 ⊢
      exact fin _ _ _ hrun h1 h2 (by simp)
  | row hxl hjl =>
    rename_i b junk
    have hb0 : w.heap[b]? = some (.cells (List.toArray (xs ++ junk)) et (0, 0)) := hh2.get (by simp)
    have hcapge : len ≤ cap := by
      have : len * s ≤ cap * s := by rw [← hxl, ← hjl]; simp
      exact Nat.le_of_mul_le_mul_right this hs1
    by_cases hroom : len + m ≤ cap
    · have hfit : len * i.size + ys.length ≤ (List.toArray (xs ++ junk)).size := by
        rw [his, hyl, List.size_toArray, hjl, ← Nat.add_mul]; exact Nat.mul_le_mul_right _ hroom
      have hrun := run_append_room (P := P) w t ty et i ht.eq hi b len cap (List.toArray (xs ++ junk)) hb0 ⟨b2, o2, none⟩ m c2 ys (by rw [hyl, his]) hnews hone' hroom hfit
      have e1 : ((List.toArray (xs ++ junk)).toList.take (len * i.size) ++ ys ++ (List.toArray (xs ++ junk)).toList.drop (len * i.size + ys.length)) = xs ++ ys ++ junk.drop ys.length := by
        rw [his, ← hxl]; simp [List.drop_append]
      rw [e1] at hrun
      have hp : HP E (w.setRow b (List.toArray (xs ++ ys ++ junk.drop ys.length))) ([(b, .cells (List.toArray (xs ++ ys ++ junk.drop ys.length)) et)] ++ R) :=
        hh2.turn Turn.here rfl (setRow_heap _ _ _ _ _ _ hb0) (fun j hj _ => setRow_other _ _ _ _ hj)
      refine fin _ _ _ hrun hp ?_ (by simp)
      refine Row.row (by simp [hxl, hyl, Nat.add_mul]) ?_
      have h3 : ys.length ≤ junk.length := by
        have : (len + m) * s ≤ cap * s := Nat.mul_le_mul_right _ hroom
        rw [Nat.add_mul, ← hxl, ← hyl, ← hjl] at this
        simp at this; omega
      rw [← hjl]; simp; omega
    · have holds : ∀ j u, xs[j]? = some u → w.cell? ((⟨b, 0, none⟩ : Addr).add j) = some u := fun j u hj => by
        have hlt := (List.getElem?_eq_some_iff.1 hj).1
        rw [add_none, cell_of hb0, Nat.zero_add, List.getElem?_append_left hlt, hj]
      have hrun := run_append_grow (P := P) w t ty et i zv ht.eq hi hzv ⟨b, 0, none⟩ len cap xs (by rw [hxl, his]) holds ⟨b2, o2, none⟩ m c2 ys (by rw [hyl, his]) hnews (by omega) (by omega) (growslice_fits (by omega) (by rw [hib]; exact hb))
      have hge := grownCap_ge w (len + m) cap et
      exact fin _ _ _ hrun (fresh _ hge) (frow _ hge hxl) (by simp)
theorem ex_append_nil {x y : Operand} {t et : TypeId} {ag : Bool} {s len cap : Nat} {p : Option Addr} (hx : Ev f x (.slice p len cap)) (hy : Ev f y (.slice none 0 0)) (ht : Und P t (.slice et)) (hT : tyOf P et = some (ag, s)) (hc : len ≤ cap) :
    Ex P E f L ⟨some d, .call ⟨.builtin .append, #[x, y], #[t, t]⟩, ty, pos, after, none⟩ (.slice p len cap) := .mk fun w hw => by
  have h1 := run_sizeT (P := P) (w := w) hT
  simp only [execOp, resolve, Sem.run_bind, Sem.run_pure, Result.andThen_ok]
  cases p <;> simp [hx.eq, hy.eq, invoke, builtin, Builtin.append_, run_underlying ht.eq, h1, Builtin.lenOf, Builtin.firstCells, hc, storeCells]
end
end Go.Sym
