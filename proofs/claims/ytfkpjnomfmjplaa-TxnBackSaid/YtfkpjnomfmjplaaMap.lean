/- SymMap: maps, over Sym. A map's block is told by a list of keys and values in the order in which they came. -/
import Derived.Test.YtfkpjnomfmjplaaOps
set_option linter.unusedVariables false
set_option linter.unusedSimpArgs false
set_option linter.unnecessarySimpa false
namespace Go.Sym
open Go

set_option linter.unusedSectionVars false
section
variable {K : Type} [DecidableEq K]
/-- what the model's map operations come to at keys of type kt, spelt by enc -/
structure KeyLaw (P : Program) (kt : TypeId) (enc : K → Value) : Prop where
  check : ∀ b k w, (Instr.checkKey b 10000 kt (enc k)).run P w = .ok () w
  bits : ∀ k, Instr.sameBits 10000 (enc k) (enc k) = true
  find : ∀ (k : K) (ks : List K) (es : List MapEntry) w, es.map (·.key) = ks.map enc → (Instr.findKey kt (enc k) es).run P w = .ok ((ks.idxOf? k).bind fun i => (es[i]?).map fun e => (i, e.val)) w
theorem idxOf?_cons (k a : K) (l : List K) : (a :: l).idxOf? k = if a = k then some 0 else (l.idxOf? k).map (· + 1) := by
  simp only [List.idxOf?, List.findIdx?_cons]
  by_cases h : a = k <;> simp [h]
theorem KeyLaw.of_int {P : Program} {kt : TypeId} {q : IntKind} (hd : P.underlying kt = some (.int q)) (hc : ∀ b k w, (Instr.checkKey b 10000 kt (.int q k)).run P w = .ok () w) : KeyLaw (K := Int) P kt (.int q) := by
  refine ⟨hc, fun k => by simp [Instr.sameBits], fun k ks es w h => ?_⟩
  unfold Instr.findKey
  rw [Sem.run_bind, run_underlying hd, Result.andThen_ok]
  have key : ∀ (ks : List Int) (es : List MapEntry) (j : Nat), es.map (·.key) = ks.map (Value.int q) → Instr.findNow (.int q) (.int q k) es j = some ((ks.idxOf? k).bind fun i => (es[i]?).map fun e => (i + j, e.val)) := by
    intro ks
    induction ks with
    | nil => intro es j h; have : es = [] := by simpa using h
             subst this; simp [Instr.findNow]
    | cons a ks ih =>
      intro es j h
      cases es with
      | nil => simp at h
      | cons e es =>
        simp only [List.map_cons, List.cons.injEq] at h
        obtain ⟨h1, h2⟩ := h
        unfold Instr.findNow
        rw [h1, idxOf?_cons]
        by_cases hk : k = a
        · subst hk; simp [Instr.sameNow]
        · have hk' : ¬ a = k := fun h => hk h.symm
          have : (k == a) = false := by simpa using hk
          simp only [Instr.sameNow, if_true, this, hk', if_false]
          rw [ih es (j + 1) h2]
          cases hi : ks.idxOf? k with
          | none => simp
          | some i => simp [Nat.add_assoc, Nat.add_comm 1 j]
  rw [key ks es 0 h]
  simp

/-- the block's entries es read as the list l -/
structure MapOf (enc : K → Value) (l : List (K × Value)) (es : Array MapEntry) (clock : Nat) : Prop where
  ents : es.toList.map (fun e => (e.key, e.val)) = l.map (fun p => (enc p.1, p.2))
  born : (es.toList.map (·.born)).Nodup
  lt : ∀ e ∈ es.toList, e.born < clock
  keys : (l.map (·.1)).Nodup
variable {enc : K → Value} {l : List (K × Value)} {es : Array MapEntry} {clock : Nat}
omit [DecidableEq K] in
theorem MapOf.keyMap (h : MapOf enc l es clock) : es.toList.map (·.key) = (l.map (·.1)).map enc := by
  have := congrArg (List.map Prod.fst) h.ents
  simpa [Function.comp_def] using this
omit [DecidableEq K] in
theorem MapOf.size (h : MapOf enc l es clock) : es.size = l.length := by
  have := congrArg List.length h.ents
  simpa using this
omit [DecidableEq K] in
theorem MapOf.get (h : MapOf enc l es clock) (i : Nat) : (es[i]?).map (fun e => (e.key, e.val)) = (l[i]?).map (fun p => (enc p.1, p.2)) := by
  have := congrArg (fun x => x[i]?) h.ents
  simpa using this
omit [DecidableEq K] in
theorem MapOf.empty : MapOf enc ([] : List (K × Value)) #[] 0 := ⟨rfl, by simp, by simp, by simp⟩
/-- the value at a key -/
def lookV (l : List (K × Value)) (k : K) : Option Value := ((l.map (·.1)).idxOf? k).bind fun i => (l[i]?).map (·.2)
theorem lookV_nil (k : K) : lookV ([] : List (K × Value)) k = none := rfl
theorem lookV_cons (p : K × Value) (l : List (K × Value)) (k : K) : lookV (p :: l) k = if p.1 = k then some p.2 else lookV l k := by
  unfold lookV
  rw [List.map_cons, idxOf?_cons]
  by_cases h : p.1 = k
  · simp [h]
  · simp only [h, if_false]
    cases (l.map (·.1)).idxOf? k <;> simp
def hasK (l : List (K × Value)) (k : K) : Bool := l.any fun p => decide (p.1 = k)
theorem lookV_isSome (l : List (K × Value)) (k : K) : (lookV l k).isSome = hasK l k := by
  induction l with
  | nil => rfl
  | cons p l ih =>
    rw [lookV_cons]
    unfold hasK at *
    by_cases h : p.1 = k <;> simp [h, ih]
theorem MapOf.find {P : Program} {kt : TypeId} (h : MapOf enc l es clock) (KL : KeyLaw P kt enc) (k : K) (w : World) : (Instr.findKey kt (enc k) es.toList).run P w = .ok (((l.map (·.1)).idxOf? k).bind fun i => (es[i]?).map fun e => (i, e.val)) w := by
  rw [KL.find k (l.map (·.1)) es.toList w h.keyMap]
  simp
/-- a store -/
def putV (l : List (K × Value)) (k : K) (v : Value) : List (K × Value) := if hasK l k then l.map (fun p => if p.1 = k then (p.1, v) else p) else l ++ [(k, v)]
def delV (l : List (K × Value)) (k : K) : List (K × Value) := l.filter fun p => !decide (p.1 = k)
end

theorem idxOf?_some {K : Type} [DecidableEq K] {l : List K} {k : K} {i : Nat} (h : l.idxOf? k = some i) : l[i]? = some k := by
  induction l generalizing i with
  | nil => simp [List.idxOf?] at h
  | cons a l ih =>
    rw [idxOf?_cons] at h
    by_cases hk : a = k
    · simp [hk] at h; subst h; simp [hk]
    · simp only [hk, if_false, Option.map_eq_some_iff] at h
      obtain ⟨j, hj, rfl⟩ := h
      simpa using ih hj
theorem idxOf?_none {K : Type} [DecidableEq K] {l : List K} {k : K} (h : l.idxOf? k = none) : k ∉ l := by
  induction l with
  | nil => simp
  | cons a l ih =>
    rw [idxOf?_cons] at h
    by_cases hk : a = k
    · simp [hk] at h
    · simp only [hk, if_false, Option.map_eq_none_iff] at h
      simp [ih h]; exact fun e => hk e.symm

@[irreducible] def zeroVal (P : Program) (t : TypeId) : Option Value := (P.info? t).bind (·.zero)
theorem run_zeroV {P : Program} {t : TypeId} {z : Value} {w : World} (h : zeroVal P t = some z) : (zeroValue t).run P w = .ok z w := by
  unfold zeroVal at h
  cases hi : P.info? t with
  | none => simp [hi] at h
  | some i =>
    simp only [hi, Option.bind_some] at h
    simp [zeroValue, run_info hi, h]
section
variable {K : Type} {dk : DecidableEq K} {P : Program} {E : Env} {n : Nat} {Q : SPost} {f : Nat → Value} {L : List Blk} {ty : TypeId} {pos : String} {after : Array Edge} {d : Nat}
include dk
variable {enc : K → Value} {l : List (K × Value)} {es : Array MapEntry} {clock : Nat} {t kt et : TypeId} {m : Nat} {k : K} {x y z : Operand}
theorem run_look (b : Bool) {w : World} (hb : w.heap[m]? = some (.map es clock)) (hM : MapOf enc l es clock) (KL : KeyLaw P kt enc) (ht : Und P t (.map kt et)) {z : Value} (hz : zeroVal P et = some z) :
    (Instr.lookup t (.map (some m)) (enc k) b).run P w = .ok (if b then .tuple #[(lookV l k).getD z, .bool (hasK l k)] else (lookV l k).getD z) w := by
  have hz1 := run_zeroV (P := P) (w := w) hz
  have hg : (getObj m).run P w = .ok (.map es clock) w := by simp [getObj, Sem.run, hb]
  have hv : lookV l k = ((l.map (·.1)).idxOf? k).bind fun i => (es[i]?).map (·.val) := by
    unfold lookV
    cases hi : (l.map (·.1)).idxOf? k with
    | none => rfl
    | some i =>
      have := congrArg (Option.map Prod.snd) (hM.get i)
      simp only [Option.map_map] at this
      simpa [Function.comp_def] using this.symm
  have hs := lookV_isSome l k
  unfold Instr.lookup
  simp only [Sem.run_bind, run_underlying ht.eq, Result.andThen_ok, hg, KL.check, hM.find KL, Sem.run_pure]
  rw [← hs, hv]
  cases hi : (l.map (·.1)).idxOf? k with
  | none => simp [hz1]
  | some i =>
    have h1 := idxOf?_some hi
    have h2 : i < l.length := by
      have := (List.getElem?_eq_some_iff.1 h1).1; simpa using this
    have h3 : i < es.size := by rw [hM.size]; exact h2
    simp [h3]
theorem ex_lookup {v z0 : Value} (hx : Ev f x (.map (some m))) (hy : Ev f y (enc k)) (hm : (m, .map es clock) ∈ L) (hM : MapOf enc l es clock) (KL : KeyLaw P kt enc) (ht : Und P t (.map kt et)) (hz : zeroVal P et = some z0) (hv : (lookV l k).getD z0 = v) :
    Ex P E f L ⟨some d, .lookup t x y false, ty, pos, after, none⟩ v := .mk fun w hw => by
  have h := run_look (P := P) (k := k) false (hw.get hm) hM KL ht hz
  simp only [execOp, hx.eq, hy.eq]
  rw [Sem.run_bind, h]
  simp [hv]
omit dk in
theorem ex_len_map (hx : Ev f x (.map (some m))) (hm : (m, .map es clock) ∈ L) (hM : MapOf enc l es clock) (ht : Und P t (.map kt et)) :
    Ex P E f L ⟨some d, .call ⟨.builtin .len, #[x], #[t]⟩, ty, pos, after, none⟩ (.int .i64 l.length) := .mk fun w hw => by
  have hg : (getObj m).run P w = .ok (.map es clock) w := by simp [getObj, Sem.run, hw.get hm]
  simp [execOp, resolve, hx.eq, invoke, builtin, Builtin.len_, run_underlying ht.eq, hg, goInt, hM.size]
omit dk in
/-- a block that is no row of cells, turned -/
theorem run_setObj {w : World} {b : Nat} {o o' : Obj} (hb : w.heap[b]? = some o) (ho : ∀ c e z, o ≠ .cells c e z) : (setObj b o').run P w = .ok () { w with heap := w.heap.setIfInBounds b o' } := by
  cases o <;> first | exact absurd rfl (ho _ _ _) | simp [Go.setObj, Sem.run, hb]
omit dk in
theorem HP.setObj {w : World} {L' : List Blk} {b : Nat} {o o' : Obj} (h : HP E w L) (hT : Turn L b o o' L') : HP E { w with heap := w.heap.setIfInBounds b o' } L' := by
  have hlt := h.lt hT.mem
  refine h.turn hT rfl ?_ fun k hk _ => ?_
  · simp [hlt]
  · simp [Array.getElem?_setIfInBounds_ne (Ne.symm hk)]

theorem mapOf_put (hM : MapOf enc l es clock) {v : Value} {i : Nat} (hi : (l.map (·.1)).idxOf? k = some i) : MapOf enc (putV l k v) (es.modify i fun e => { e with key := enc k, val := v }) clock := by
  have hk := idxOf?_some hi
  have hmem : k ∈ l.map (·.1) := List.mem_of_getElem? hk
  have hhas : hasK l k = true := by
    unfold hasK; rw [List.any_eq_true]
    obtain ⟨p, hp, hpk⟩ := List.mem_map.1 hmem
    exact ⟨p, hp, by simp [hpk]⟩
  have hput : putV l k v = l.map (fun p => if p.1 = k then (p.1, v) else p) := by unfold putV; rw [if_pos hhas]
  have hkeys : (putV l k v).map (·.1) = l.map (·.1) := by
    rw [hput, List.map_map]; apply List.map_congr_left; intro p _; simp only [Function.comp]; split <;> rfl
  have hborn : (es.modify i fun e => { e with key := enc k, val := v }).toList.map (·.born) = es.toList.map (·.born) := by
    apply List.ext_getElem?; intro j
    simp only [List.getElem?_map, Array.getElem?_toList, Array.getElem?_modify]
    by_cases h : i = j <;> simp [h, Option.map_map, Function.comp_def]
  refine ⟨?_, by rw [hborn]; exact hM.born, ?_, by rw [hkeys]; exact hM.keys⟩
  · apply List.ext_getElem?
    intro j
    have hg := hM.get j
    simp only [List.getElem?_map, Array.getElem?_toList, Array.getElem?_modify, hput]
    by_cases hij : i = j
    · subst hij
      simp only [if_true, Option.map_map]
      have h1 : l[i]?.map (·.1) = some k := by simpa using hk
      obtain ⟨p, hp, hpk⟩ := Option.map_eq_some_iff.1 h1
      rw [hp] at hg ⊢
      obtain ⟨e, he, _⟩ := Option.map_eq_some_iff.1 hg
      simp [he, hpk]
    · simp only [hij, if_false]
      rw [hg]
      cases hp : l[j]? with
      | none => rfl
      | some p =>
        have : p.1 ≠ k := by
          intro hpk
          have hnd := hM.keys
          have h1 : (l.map (·.1))[j]? = some k := by simp [hp, hpk]
          have hi' := (List.getElem?_eq_some_iff.1 hk)
          have hj' := (List.getElem?_eq_some_iff.1 h1)
          exact hij ((List.getElem_inj (h₀ := hi'.1) (h₁ := hj'.1) hnd).1 (hi'.2.trans hj'.2.symm))
        simp [this]
  · intro e he
    obtain ⟨j, hj⟩ := List.getElem?_of_mem he
    have h1 := congrArg (fun x => x[j]?) hborn
    simp only [List.getElem?_map, hj] at h1
    obtain ⟨e0, he0, hb⟩ := Option.map_eq_some_iff.1 h1.symm
    have := hM.lt e0 (List.mem_of_getElem? he0)
    simp at hb; omega
theorem mapOf_push (hM : MapOf enc l es clock) {v : Value} (hi : (l.map (·.1)).idxOf? k = none) : MapOf enc (putV l k v) (es.push { key := enc k, val := v, born := clock }) (clock + 1) := by
  have hnot := idxOf?_none hi
  have hhas : hasK l k = false := by
    unfold hasK; rw [List.any_eq_false]
    intro p hp; simp; intro hpk; exact hnot (List.mem_map.2 ⟨p, hp, hpk⟩)
  have hput : putV l k v = l ++ [(k, v)] := by unfold putV; rw [if_neg (by simp [hhas])]
  refine ⟨by simp [hput, hM.ents], ?_, ?_, ?_⟩
  · simp only [Array.toList_push, List.map_append, List.map_cons, List.map_nil]
    rw [List.nodup_append]
    refine ⟨hM.born, by simp, ?_⟩
    intro a ha b hb
    obtain ⟨e, he, rfl⟩ := List.mem_map.1 ha
    have := hM.lt e he
    simp at hb; omega
  · intro e he
    simp only [Array.toList_push, List.mem_append, List.mem_singleton] at he
    rcases he with he | rfl
    · have := hM.lt e he; omega
    · simp
  · rw [hput, List.map_append, List.nodup_append]
    refine ⟨hM.keys, by simp, ?_⟩
    intro a ha b hb hab
    simp at hb; subst hb hab; exact hnot ha
omit dk in
theorem map_eraseIdx' {α β : Type} (g : α → β) (l : List α) (i : Nat) : (l.eraseIdx i).map g = (l.map g).eraseIdx i := by
  induction l generalizing i with
  | nil => rfl
  | cons a l ih => cases i <;> simp [ih]
omit dk in
theorem delV_eq {K : Type} [DecidableEq K] {k : K} : ∀ {l : List (K × Value)} {i : Nat}, (l.map (·.1)).Nodup → (l.map (·.1)).idxOf? k = some i → delV l k = l.eraseIdx i := by
  intro l
  induction l with
  | nil => intro i _ hi; simp [List.idxOf?] at hi
  | cons p l ih =>
    intro i hn hi
    rw [List.map_cons, idxOf?_cons] at hi
    rw [List.map_cons, List.nodup_cons] at hn
    by_cases h : p.1 = k
    · simp only [h, if_true, Option.some.injEq] at hi
      subst hi
      simp only [delV, List.filter_cons, h, decide_true, Bool.not_true, Bool.false_eq_true, if_false, List.eraseIdx_cons_zero]
      refine List.filter_eq_self.2 fun q hq => ?_
      simp; intro hqk
      exact hn.1 (List.mem_map.2 ⟨q, hq, by rw [hqk, h]⟩)
    · simp only [h, if_false, Option.map_eq_some_iff] at hi
      obtain ⟨j, hj, rfl⟩ := hi
      have := ih hn.2 hj
      simp only [delV, List.filter_cons, h, decide_false, Bool.not_false, if_true, List.eraseIdx_cons_succ] at this ⊢
      rw [← this]
theorem mapOf_del (hM : MapOf enc l es clock) {i : Nat} (hi : (l.map (·.1)).idxOf? k = some i) : MapOf enc (delV l k) (es.eraseIdxIfInBounds i) clock := by
  have hk := idxOf?_some hi
  have hil : i < l.length := by have := (List.getElem?_eq_some_iff.1 hk).1; simpa using this
  have hes : (es.eraseIdxIfInBounds i).toList = es.toList.eraseIdx i := by
    unfold Array.eraseIdxIfInBounds
    rw [dif_pos (by rw [hM.size]; exact hil)]
    simp
  rw [delV_eq hM.keys hi]
  refine ⟨?_, ?_, ?_, ?_⟩
  · rw [hes, map_eraseIdx', map_eraseIdx', hM.ents]
  · rw [hes, map_eraseIdx']; exact hM.born.sublist (List.eraseIdx_sublist _ _)
  · intro e he; rw [hes] at he; exact hM.lt e ((List.eraseIdx_sublist _ _).subset he)
  · rw [map_eraseIdx']; exact hM.keys.sublist (List.eraseIdx_sublist _ _)
theorem mapOf_del_none (hM : MapOf enc l es clock) (hi : (l.map (·.1)).idxOf? k = none) : delV l k = l := by
  have hnot := idxOf?_none hi
  unfold delV
  refine List.filter_eq_self.2 fun q hq => ?_
  simp; intro hqk; exact hnot (List.mem_map.2 ⟨q, hq, hqk⟩)

/-- 'm[k] = v' -/
theorem so_mapUpdate {ops rest : List Oper} {v : Value} (hx : Ev f x (.map (some m))) (hy : Ev f y (enc k)) (hz : Ev f z v) {L' : Array MapEntry → Nat → List Blk} (hT : ∀ es' c', Turn L m (.map es clock) (.map es' c') (L' es' c')) (hM : MapOf enc l es clock) (KL : KeyLaw P kt enc) (ht : Und P t (.map kt et))
    (h : ∀ es' c', MapOf enc (putV l k v) es' c' → SO P E n ops Q rest f (L' es' c')) : SO P E n ops Q (⟨none, .mapUpdate t x y z, ty, pos, after, none⟩ :: rest) f L := so_turn (by simp) fun a w hr hh => by
  have hb := hh.get (hT es clock).mem
  have hg : (getObj m).run P w = .ok (.map es clock) w := by simp [getObj, Sem.run, hb]
  have hset : ∀ o', (setObj m o').run P w = .ok () { w with heap := w.heap.setIfInBounds m o' } := fun o' => run_setObj hb (by simp)
  cases hi : (l.map (·.1)).idxOf? k with
  | some i =>
    have hil : i < es.size := by
      have h1 := (List.getElem?_eq_some_iff.1 (idxOf?_some hi)).1
      rw [hM.size]; simpa using h1
    have hkey : es[i].key = enc k := by
      have h1 := congrArg (fun x => x[i]?) hM.keyMap
      simp only [List.getElem?_map] at h1
      have h2 := idxOf?_some hi
      rw [List.getElem?_map] at h2
      obtain ⟨p, hp, hpk⟩ := Option.map_eq_some_iff.1 h2
      simp [hil, hp, hpk] at h1
      exact h1
    refine ⟨.skip, _, ?_, .inl ⟨rfl, rfl, (h _ _ (mapOf_put hM hi)).out _ _ hr (hh.setObj (hT _ _))⟩⟩
    simp only [execOp, hx.eq, hy.eq, hz.eq, Instr.mapUpdate, Sem.run_bind, run_underlying ht.eq, Result.andThen_ok, hg, KL.check, hM.find KL, hi, Option.bind_some]
    simp [hil, Instr.keyThatStays, hkey, KL.bits, hset]
  | none =>
    refine ⟨.skip, _, ?_, .inl ⟨rfl, rfl, (h _ _ (mapOf_push hM hi)).out _ _ hr (hh.setObj (hT _ _))⟩⟩
    simp only [execOp, hx.eq, hy.eq, hz.eq, Instr.mapUpdate, Sem.run_bind, run_underlying ht.eq, Result.andThen_ok, hg, KL.check, hM.find KL, hi, Option.bind_none]
    simp [hset]
/-- 'delete(m, k)' -/
theorem so_delete {ops rest : List Oper} {tk : TypeId} (hx : Ev f x (.map (some m))) (hy : Ev f y (enc k)) {L' : Array MapEntry → Nat → List Blk} (hT : ∀ es' c', Turn L m (.map es clock) (.map es' c') (L' es' c')) (hM : MapOf enc l es clock) (KL : KeyLaw P kt enc) (ht : Und P t (.map kt et))
    (h : ∀ es', MapOf enc (delV l k) es' clock → (∀ e ∈ es'.toList, e ∈ es.toList) → SO P E n ops Q rest f (L' es' clock)) : SO P E n ops Q (⟨none, .call ⟨.builtin .delete, #[x, y], #[t, tk]⟩, ty, pos, after, none⟩ :: rest) f L := so_turn (by simp) fun a w hr hh => by
  have hb := hh.get (hT es clock).mem
  have hg : (getObj m).run P w = .ok (.map es clock) w := by simp [getObj, Sem.run, hb]
  have hset : ∀ o', (setObj m o').run P w = .ok () { w with heap := w.heap.setIfInBounds m o' } := fun o' => run_setObj hb (by simp)
  cases hi : (l.map (·.1)).idxOf? k with
  | some i =>
    have hil : i < es.size := by
      have h1 := (List.getElem?_eq_some_iff.1 (idxOf?_some hi)).1
      rw [hM.size]; simpa using h1
    have hsub : ∀ e ∈ (es.eraseIdxIfInBounds i).toList, e ∈ es.toList := by
      intro e he
      unfold Array.eraseIdxIfInBounds at he
      rw [dif_pos hil] at he
      simp only [Array.toList_eraseIdx] at he
      exact (List.eraseIdx_sublist _ _).subset he
    refine ⟨.value (.tuple #[]), { w with heap := w.heap.setIfInBounds m (.map (es.eraseIdxIfInBounds i) clock) }, ?_, .inr ⟨_, rfl, (h _ (mapOf_del hM hi) hsub).out _ _ hr (hh.setObj (hT _ _))⟩⟩
    simp only [execOp, resolve, Sem.run_bind, Sem.run_pure, Result.andThen_ok]
    simp [hx.eq, hy.eq, invoke, builtin, Builtin.delete_, run_underlying ht.eq, hg, KL.check, hM.find KL, hi, hil, hset]
  | none =>
    refine ⟨.value (.tuple #[]), { w with heap := w.heap.setIfInBounds m (.map es clock) }, ?_, .inr ⟨_, rfl, (h es (by rw [mapOf_del_none hM hi]; exact hM) (fun e he => he)).out _ _ hr (hh.setObj (hT _ _))⟩⟩
    simp only [execOp, resolve, Sem.run_bind, Sem.run_pure, Result.andThen_ok]
    simp [hx.eq, hy.eq, invoke, builtin, Builtin.delete_, run_underlying ht.eq, hg, KL.check, hM.find KL, hi, hset]

/-! ### ranging -/
/-- an iterator over the entries es, the keys vis having come -/
structure Iter (enc : K → Value) (es : Array MapEntry) (since : Nat) (seen : Array Nat) (vis : List K) : Prop where
  lt : ∀ e ∈ es.toList, e.born < since
  vis : ∀ e ∈ es.toList, e.born ∈ seen ↔ ∃ k ∈ vis, e.key = enc k
omit dk in
theorem Iter.start (hM : MapOf enc l es clock) : Iter enc es clock #[] [] := ⟨hM.lt, fun e _ => by simp⟩
omit dk in
theorem Iter.sub {es' : Array MapEntry} {since : Nat} {seen : Array Nat} {vis : List K} (h : Iter enc es since seen vis) (hs : ∀ e ∈ es'.toList, e ∈ es.toList) : Iter enc es' since seen vis := ⟨fun e he => h.lt e (hs e he), fun e he => h.vis e (hs e he)⟩
/-- the entry that came last -/
def Cur (es : Array MapEntry) (seen : Array Nat) (kv v : Value) : Prop := ∃ e ∈ es.toList, seen.back? = some e.born ∧ e.key = kv ∧ e.val = v
omit dk in
theorem so_range {ops rest : List Oper} (hx : Ev f x (.map (some m))) (hm : (m, .map es clock) ∈ L) (ht : Und P t (.map kt et)) (hd : Nat.blt d n = true)
    (h : ∀ r, SO P E n ops Q rest (upd f d (.pointer (some ⟨r, 0, none⟩))) ((r, .mapIter (some m) clock #[] clock) :: L)) : SO P E n ops Q (⟨some d, .range t x, ty, pos, after, none⟩ :: rest) f L := so_turn (by simpa using hd) fun a w hr hh => by
  have hg : (getObj m).run P w = .ok (.map es clock) w := by simp [getObj, Sem.run, hh.get hm]
  refine ⟨.value (.pointer (some ⟨w.heap.size, 0, none⟩)), w.alloc (.mapIter (some m) clock #[] clock), ?_, .inr ⟨_, rfl, (h _).out _ _ (hr.put (by simpa [Nat.blt_eq] using hd) _) (hh.alloc _)⟩⟩
  simp only [execOp, hx.eq, Instr.range, Sem.run_bind, run_underlying ht.eq, Result.andThen_ok, hg, Sem.run_pure]
  rfl
omit dk in
theorem so_next {ops rest : List Oper} {r since stepped : Nat} {seen : Array Nat} {vis : List K} (hx : Ev f x (.pointer (some ⟨r, 0, none⟩))) (hm : (m, .map es clock) ∈ L) {L' : Array Nat → List Blk} (hT : ∀ seen', Turn L r (.mapIter (some m) since seen stepped) (.mapIter (some m) since seen' clock) (L' seen'))
    (hM : MapOf enc l es clock) (hI : Iter enc es since seen vis) (hst : since ≤ stepped) (hinj : ∀ a b, enc a = enc b → a = b) (hd : Nat.blt d n = true)
    (h0 : (∀ p ∈ l, p.1 ∈ vis) → SO P E n ops Q rest (upd f d (.tuple #[.bool false])) L)
    (h1 : ∀ p seen', p ∈ l → p.1 ∉ vis → Iter enc es since seen' (p.1 :: vis) → Cur es seen' (enc p.1) p.2 → SO P E n ops Q rest (upd f d (.tuple #[.bool true, enc p.1, p.2])) (L' seen')) :
    SO P E n ops Q (⟨some d, .next x false, ty, pos, after, none⟩ :: rest) f L := so_turn (by simpa using hd) fun a w hr hh => by
  have hg : (getObj m).run P w = .ok (.map es clock) w := by simp [getObj, Sem.run, hh.get hm]
  have hg2 : (getObj r).run P w = .ok (.mapIter (some m) since seen stepped) w := by simp [getObj, Sem.run, hh.get (hT seen).mem]
  have hguard : (!seen.isEmpty && !es.isEmpty && es.all (·.born ≥ stepped)) = false := by
    cases he : es.isEmpty with
    | true => simp
    | false =>
      have hne : 0 < es.size := by
        rcases Nat.eq_zero_or_pos es.size with h | h
        · simp [Array.isEmpty, h] at he
        · exact h
      have : es.all (·.born ≥ stepped) = false := by
        rw [Array.all_eq_false]
        refine ⟨0, hne, ?_⟩
        have := hI.lt es[0] (by simp)
        simp; omega
      simp [this]
  have hleft : ∀ e ∈ (es.filter fun e => !seen.contains e.born), e.born < since := fun e he => hI.lt e (by have := (Array.mem_filter.1 he).1; simpa using this)
  have hold : ((es.filter fun e => !seen.contains e.born).filter (·.born < since)) = (es.filter fun e => !seen.contains e.born) := by
    rw [Array.filter_eq_self]; intro e he; simpa using hleft e he
  have hnew : ((es.filter fun e => !seen.contains e.born).filter (·.born ≥ since)) = #[] := by
    rw [Array.filter_eq_empty_iff]; intro e he; have := hleft e he; simp; omega
  generalize hleftE : (es.filter fun e => !seen.contains e.born) = left at *
  have hmem : ∀ e ∈ left, e ∈ es.toList ∧ e.born ∉ seen := by
    intro e he; rw [← hleftE] at he
    have := Array.mem_filter.1 he
    exact ⟨by simpa using this.1, by simpa using this.2⟩
  cases hle : left.isEmpty with
  | true =>
    have hemp : left = #[] := by simpa using hle
    refine ⟨.value (.tuple #[.bool false]), w, ?_, .inr ⟨_, rfl, (h0 fun p hp => ?_).out _ _ (hr.put (by simpa [Nat.blt_eq] using hd) _) hh⟩⟩
    · simp only [execOp, hx.eq, Instr.next, Sem.run_bind, hg2, Result.andThen_ok, hg, hguard, Bool.false_eq_true, if_false, hleftE, hold, hnew, hle, if_true]
      simp [hemp, choose, Sem.run, Question.forced]
    · obtain ⟨i, hi⟩ := List.getElem?_of_mem hp
      have hge := hM.get i
      rw [hi] at hge
      obtain ⟨e, he, hek⟩ := Option.map_eq_some_iff.1 hge
      have hes : e ∈ es.toList := by simpa using Array.mem_of_getElem? he
      have hseen : e.born ∈ seen := by
        rcases Classical.em (e.born ∈ seen) with h | h
        · exact h
        · have : e ∈ left := by rw [← hleftE]; exact Array.mem_filter.2 ⟨by simpa using hes, by simpa using h⟩
          rw [hemp] at this; simp at this
      obtain ⟨k', hk', hkey⟩ := (hI.vis e hes).1 hseen
      simp only [Prod.mk.injEq] at hek
      have : p.1 = k' := hinj _ _ (hek.1.symm.trans hkey)
      rw [this]; exact hk'
  | false =>
    have hpos : 0 < left.size := by
      rcases Nat.eq_zero_or_pos left.size with h | h
      · simp [Array.isEmpty, h] at hle
      · exact h
    have hch : ∃ j w1, j < left.size ∧ (choose (.mapNext left.size)).run P w = .ok j w1 ∧ HP E w1 L := by
      by_cases hf : left.size ≤ 1
      · exact ⟨0, w, hpos, by simp [choose, Sem.run, Question.forced, hf], hh⟩
      · exact ⟨w.tape w.drawn (.mapNext left.size) % left.size, { w with drawn := w.drawn + 1 }, Nat.mod_lt _ hpos, by simp [choose, Sem.run, Question.forced, hf, Question.cut], hh.drew⟩
    obtain ⟨j, w1, hj, hrun, hh1⟩ := hch
    have hej := hmem left[j] (Array.getElem_mem _)
    obtain ⟨i, hi⟩ := List.getElem?_of_mem hej.1
    have hge := hM.get i
    rw [show es[i]? = some left[j] by simpa using hi] at hge
    obtain ⟨p, hp, hpk⟩ := Option.map_eq_some_iff.1 hge.symm
    simp only [Prod.mk.injEq] at hpk
    have hpl : p ∈ l := List.mem_of_getElem? hp
    have hnv : p.1 ∉ vis := fun hv => hej.2 ((hI.vis _ hej.1).2 ⟨p.1, hv, hpk.1.symm⟩)
    have hI' : Iter enc es since (seen.push left[j].born) (p.1 :: vis) := by
      refine ⟨hI.lt, fun e he => ?_⟩
      rw [Array.mem_push, hI.vis e he]
      constructor
      · rintro (⟨k, hk, hke⟩ | hb)
        · exact ⟨k, List.mem_cons_of_mem _ hk, hke⟩
        · refine ⟨p.1, List.mem_cons_self, ?_⟩
          have : e = left[j] := by
            obtain ⟨i2, hi2⟩ := List.getElem?_of_mem he
            have h1 : (es.toList.map (·.born))[i2]? = some left[j].born := by rw [List.getElem?_map, hi2]; simp [hb]
            have h2 : (es.toList.map (·.born))[i]? = some left[j].born := by rw [List.getElem?_map, hi]; simp
            have h1' := List.getElem?_eq_some_iff.1 h1
            have h2' := List.getElem?_eq_some_iff.1 h2
            have := (List.getElem_inj (h₀ := h1'.1) (h₁ := h2'.1) hM.born).1 (h1'.2.trans h2'.2.symm)
            subst this
            exact Option.some.inj (hi2.symm.trans hi)
          rw [this]; exact hpk.1.symm
      · rintro ⟨k, hk, hke⟩
        rcases List.mem_cons.1 hk with rfl | hk
        · right
          obtain ⟨i2, hi2⟩ := List.getElem?_of_mem he
          have hge2 := hM.get i2
          rw [show es[i2]? = some e by simpa using hi2] at hge2
          obtain ⟨q, hq, hqk⟩ := Option.map_eq_some_iff.1 hge2.symm
          simp only [Prod.mk.injEq] at hqk
          have hqp : q.1 = p.1 := hinj _ _ (hqk.1.trans hke)
          have h1 : (l.map (·.1))[i2]? = some p.1 := by simp [hq, hqp]
          have h2 : (l.map (·.1))[i]? = some p.1 := by simp [hp]
          have h1' := List.getElem?_eq_some_iff.1 h1
          have h2' := List.getElem?_eq_some_iff.1 h2
          have := (List.getElem_inj (h₀ := h1'.1) (h₁ := h2'.1) hM.keys).1 (h1'.2.trans h2'.2.symm)
          subst this
          rw [Option.some.inj (hi2.symm.trans hi)]
        · left; exact ⟨k, hk, hke⟩
    have hcur : Cur es (seen.push left[j].born) (enc p.1) p.2 := ⟨left[j], hej.1, by simp, hpk.1.symm, hpk.2.symm⟩
    have hb1 := hh1.get (hT seen).mem
    have hset := run_setObj (P := P) (o' := .mapIter (some m) since (seen.push left[j].born) clock) hb1 (by simp)
    refine ⟨.value (.tuple #[.bool true, enc p.1, p.2]), _, ?_, .inr ⟨_, rfl, (h1 p _ hpl hnv hI' hcur).out _ _ (hr.put (by simpa [Nat.blt_eq] using hd) _) (hh1.setObj (hT _))⟩⟩
    simp only [execOp, hx.eq, Instr.next, Sem.run_bind, hg2, Result.andThen_ok, hg, hguard, Bool.false_eq_true, if_false, hleftE, hold, hnew, hle]
    have hsz : (#[] ++ (left ++ #[]).map some : Array (Option MapEntry)).size = left.size := by simp
    rw [hsz, hrun]
    simp only [Result.andThen_ok]
    have hget : (#[] ++ (left ++ #[]).map some : Array (Option MapEntry))[j]? = some (some left[j]) := by simp [hj]
    rw [hget]
    simp only [Sem.run_bind, hset, Result.andThen_ok, Sem.run_pure]
    rw [hpk.1, hpk.2]
omit dk in
theorem ex_entry {r since : Nat} {seen : Array Nat} {kv v : Value} (hx : Ev f x (.pointer (some ⟨r, 0, none⟩))) (hm : (m, .map es clock) ∈ L) (hr : (r, .mapIter (some m) since seen clock) ∈ L) (hM : MapOf enc l es clock) (hc : Cur es seen kv v) :
    Ex P E f L ⟨some d, .entry x, ty, pos, after, none⟩ (.tuple #[kv, v]) := .mk fun w hw => by
  have hg : (getObj m).run P w = .ok (.map es clock) w := by simp [getObj, Sem.run, hw.get hm]
  have hg2 : (getObj r).run P w = .ok (.mapIter (some m) since seen clock) w := by simp [getObj, Sem.run, hw.get hr]
  obtain ⟨e, he, hb, hk, hv⟩ := hc
  have hfind : es.find? (·.born == e.born) = some e := by
    rw [← Array.find?_toList]
    have key : ∀ (ls : List MapEntry), (ls.map (·.born)).Nodup → e ∈ ls → ls.find? (·.born == e.born) = some e := by
      intro ls
      induction ls with
      | nil => intro _ h; simp at h
      | cons a ls ih =>
        intro hn hm
        rw [List.map_cons, List.nodup_cons] at hn
        rcases List.mem_cons.1 hm with rfl | hm
        · simp
        · have hne : (a.born == e.born) = false := by
            simp; intro hab; exact hn.1 (List.mem_map.2 ⟨e, hm, hab.symm⟩)
          simp [hne, ih hn.2 hm]
    exact key _ hM.born he
  simp [execOp, hx.eq, Instr.entry, hg, hg2, hb, hfind, hk, hv]
end
end Go.Sym
