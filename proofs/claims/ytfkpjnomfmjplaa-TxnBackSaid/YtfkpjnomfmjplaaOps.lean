/- SymOps: the operations of a region, one law each, over Sym. -/
import Derived.Test.YtfkpjnomfmjplaaSym
set_option linter.unusedVariables false
set_option linter.unusedSimpArgs false
set_option linter.unnecessarySimpa false
namespace Go.Sym
open Go

/-! ### small relations, found by unification -/
inductive Nth : List Value → Nat → Value → Prop
  | zero {v l} : Nth (v :: l) 0 v
  | succ {u l k v} : Nth l k v → Nth (u :: l) (k + 1) v
inductive Sub : List Value → Nat → Nat → List Value → Prop
  | nil {l} : Sub l 0 0 []
  | take {v l m r} : Sub l 0 m r → Sub (v :: l) 0 (m + 1) (v :: r)
  | drop {u l k m r} : Sub l k m r → Sub (u :: l) (k + 1) m r
theorem Sub.len {l : List Value} {k m : Nat} {r : List Value} (h : Sub l k m r) : r.length = m := by induction h <;> simp_all
inductive SetAt : List Value → Nat → Value → List Value → Prop
  | zero {u l v} : SetAt (u :: l) 0 v (v :: l)
  | succ {u l k v l'} : SetAt l k v l' → SetAt (u :: l) (k + 1) v (u :: l')
inductive SetSub : List Value → Nat → List Value → List Value → Prop
  | nil {l} : SetSub l 0 [] l
  | take {u v l r l'} : SetSub l 0 r l' → SetSub (u :: l) 0 (v :: r) (v :: l')
  | drop {u l k r l'} : SetSub l k r l' → SetSub (u :: l) (k + 1) r (u :: l')
theorem Nth.eq {l : List Value} {k : Nat} {v : Value} (h : Nth l k v) : l[k]? = some v := by induction h <;> simp_all
theorem Sub.eq {l : List Value} {k m : Nat} {r : List Value} (h : Sub l k m r) : ∀ j, j < r.length → l[k + j]? = r[j]? := by
  induction h with
  | nil => intro j hj; simp at hj
  | take _ ih =>
    intro j hj
    cases j with
    | zero => simp
    | succ j => simpa using ih j (by simpa using hj)
  | drop _ ih =>
    intro j hj
    rename_i k m r _
    rw [show k + 1 + j = (k + j) + 1 by omega]
    simpa using ih j hj
theorem SetAt.eq {l l' : List Value} {k : Nat} {v : Value} (h : SetAt l k v l') : l' = l.set k v ∧ k < l.length := by induction h <;> simp_all
theorem SetSub.len {l l' : List Value} {k : Nat} {r : List Value} (h : SetSub l k r l') : l'.length = l.length ∧ k + r.length ≤ l.length := by
  induction h with
  | nil => simp
  | take _ ih => simp only [List.length_cons]; omega
  | drop _ ih => simp only [List.length_cons]; omega
theorem SetSub.get {l l' : List Value} {k : Nat} {r : List Value} (h : SetSub l k r l') : ∀ i, l'[i]? = if k ≤ i ∧ i < k + r.length then r[i - k]? else l[i]? := by
  induction h with
  | nil => intro i; simp
  | take _ ih =>
    intro i
    cases i with
    | zero => simp
    | succ i =>
      have := ih i
      simp only [List.getElem?_cons_succ, List.length_cons]
      rw [this]
      rename_i u v l r l' _
      by_cases h : i < r.length
      · rw [if_pos (by omega), if_pos (by omega)]; simp
      · rw [if_neg (by omega), if_neg (by omega)]
  | drop _ ih =>
    intro i
    cases i with
    | zero => simp
    | succ i =>
      have := ih i
      simp only [List.getElem?_cons_succ]
      rw [this]
      rename_i u l k r l' _
      by_cases h : k ≤ i ∧ i < k + r.length
      · rw [if_pos h, if_pos (by omega)]; congr 1; omega
      · rw [if_neg h, if_neg (by omega)]

/-- a type's underlying description -/
structure Und (P : Program) (t : TypeId) (d : TypeDesc) : Prop where
  eq : P.underlying t = some d
/-- what is asked of a type: is it a struct or an array; how many cells -/
@[irreducible] def tyOf (P : Program) (t : TypeId) : Option (Bool × Nat) :=
  match P.info? t, P.underlying t with
  | some i, some (.struct _) => some (true, i.size)
  | some i, some (.array _ _) => some (true, i.size)
  | some i, some _ => some (false, i.size)
  | _, _ => none
@[irreducible] def zeroOf (P : Program) (t : TypeId) : Option (List Value) := ((P.info? t).bind (·.zero)).map fun v => v.cells.toList

inductive EvL : (Nat → Value) → List Operand → List Value → Prop
  | nil {f} : EvL f [] []
  | cons {f x v xs vs} : Ev f x v → EvL f xs vs → EvL f (x :: xs) (v :: vs)
inductive App : List Value → List Value → List Value → Prop
  | nil {l} : App [] l l
  | cons {v l m r} : App l m r → App (v :: l) m (v :: r)
section
variable {P : Program} {w : World}
theorem run_info {t : TypeId} {i : TypeInfo} (h : P.info? t = some i) : (typeInfo t).run P w = .ok i w := by simp [typeInfo, h]
theorem run_sizeT {t : TypeId} {b : Bool} {k : Nat} (h : tyOf P t = some (b, k)) : (sizeOf t).run P w = .ok k w := by
  unfold tyOf at h
  cases hi : P.info? t with
  | none => simp [hi] at h
  | some i =>
    have : i.size = k := by
      cases hu : P.underlying t with
      | none => simp [hi, hu] at h
      | some d => cases d <;> simp_all
    simp [sizeOf, run_info hi, this]
theorem run_aggT {t : TypeId} {b : Bool} {k : Nat} (h : tyOf P t = some (b, k)) : (isAgg t).run P w = .ok b w := by
  unfold tyOf at h
  cases hi : P.info? t with
  | none => simp [hi] at h
  | some i =>
    cases hu : P.underlying t with
    | none => simp [hi, hu] at h
    | some d => cases d <;> simp_all [isAgg, run_underlying hu]
theorem run_zeroT {t : TypeId} {z : List Value} (h : zeroOf P t = some z) : ∃ v, (zeroValue t).run P w = .ok v w ∧ v.cells = z.toArray := by
  unfold zeroOf at h
  cases hi : P.info? t with
  | none => simp [hi] at h
  | some i =>
    cases hz : i.zero with
    | none => simp [hi, hz] at h
    | some v =>
      simp [hi, hz] at h
      exact ⟨v, by simp [zeroValue, run_info hi, hz], by rw [← h]⟩
theorem cell_of {b : Nat} {c : List Value} {T : TypeId} {fz : Nat × Nat} (h : w.heap[b]? = some (.cells c.toArray T fz)) (k : Nat) : w.cell? ⟨b, k, none⟩ = c[k]? := by
  simp [World.cell?, h]
theorem run_load1 {t : TypeId} {b k : Nat} {c : List Value} {T : TypeId} {fz : Nat × Nat} {v : Value} (hT : tyOf P t = some (false, 1)) (hb : w.heap[b]? = some (.cells c.toArray T fz)) (hk : c[k]? = some v) : (loadVar t ⟨b, k, none⟩).run P w = .ok v w := by
  have hc := cell_of hb k
  rw [hk] at hc
  simp [loadVar, run_aggT hT, hc]
theorem run_loadN {t : TypeId} {b k m : Nat} {c r : List Value} {T : TypeId} {fz : Nat × Nat} (hT : tyOf P t = some (true, m)) (hb : w.heap[b]? = some (.cells c.toArray T fz)) (hk : ∀ j, j < r.length → c[k + j]? = r[j]?) (hr : r.length = m) : (loadVar t ⟨b, k, none⟩).run P w = .ok (.agg r.toArray) w := by
  have hc := cell_of hb
  have hl : (loadCells ⟨b, k, none⟩ m).run P w = .ok r.toArray w := by
    subst hr
    refine run_loadCells_list w ⟨b, k, none⟩ r fun j v hj => ?_
    have hlt : j < r.length := (List.getElem?_eq_some_iff.1 hj).1
    have h1 : (Addr.add ⟨b, k, none⟩ j) = ⟨b, k + j, none⟩ := by cases j <;> simp [Addr.add]
    rw [h1, hc, hk j hlt, hj]
  simp [loadVar, run_aggT hT, run_sizeT hT, hl]
end

/-- what the results are -/
inductive Res (P : Program) : List Blk → (Nat → Value) → List ResultVar → List Value → Prop
  | nil {L f} : Res P L f [] []
  | tmp {L f t v rs vs} : Ev f (.tmp t) v → Res P L f rs vs → Res P L f (.tmp t :: rs) (v :: vs)
  | one {L f a t b k c T fz v rs vs} : Ev f (.tmp a) (.pointer (some ⟨b, k, none⟩)) → tyOf P t = some (false, 1) → (b, .cells (List.toArray c) T fz) ∈ L → Nth c k v → Res P L f rs vs → Res P L f (.cell a t :: rs) (v :: vs)
  | agg {L f a t b k m c T fz r rs vs} : Ev f (.tmp a) (.pointer (some ⟨b, k, none⟩)) → tyOf P t = some (true, m) → (b, .cells (List.toArray c) T fz) ∈ L → Sub c k m r → Res P L f rs vs → Res P L f (.cell a t :: rs) (.agg r.toArray :: vs)
/-- a field's place and size -/
@[irreducible] def fieldPl (P : Program) (s : TypeId) (i : Nat) : Option (Nat × Nat) :=
  match P.underlying s with
  | some (.struct fs) => (fs[i]?).bind fun fd => (tyOf P fd.type).map fun p => (fd.offset, p.2)
  | _ => none
@[irreducible] def isStruct (P : Program) (s : TypeId) : Bool :=
  match P.underlying s with
  | some (.struct fs) => fs.all fun fd => (tyOf P fd.type).isSome
  | _ => false
inductive EvP : (Nat → Value) → List (Nat × Operand) → List (Nat × Value) → Prop
  | nil {f} : EvP f [] []
  | cons {f i x v xs vs} : Ev f x v → EvP f xs vs → EvP f ((i, x) :: xs) ((i, v) :: vs)
theorem EvP.eq {f : Nat → Value} {xs : List (Nat × Operand)} {vs : List (Nat × Value)} (h : EvP f xs vs) : (xs.map fun (i, x) => (i, evO f x)) = vs := by
  induction h with
  | nil => rfl
  | cons h _ ih => simp [h.eq, ih]
/-- the parts laid, one after the other -/
inductive Bld (P : Program) (t : TypeId) : List Value → List (Nat × Value) → List Value → Prop
  | nil {c} : isStruct P t = true → Bld P t c [] c
  | cons {c i v o k r c' ps c''} : fieldPl P t i = some (o, k) → v.cells = List.toArray r → r.length = k → SetSub c o r c' → Bld P t c' ps c'' → Bld P t c ((i, v) :: ps) c''
theorem Bld.struct {P : Program} {t : TypeId} {c r : List Value} {ps : List (Nat × Value)} (h : Bld P t c ps r) : ∃ fs, P.underlying t = some (.struct fs) := by
  induction h with
  | nil h => unfold isStruct at h; split at h <;> simp_all
  | cons _ _ _ _ _ ih => exact ih
theorem fill_step {c r c' : List Value} {o : Nat} (hs : SetSub c o r c') : ((r.toArray.zipIdx.foldl (fun cs (x, j) => cs.setIfInBounds (o + j) x) c.toArray)) = c'.toArray := by
  have key : ∀ (r : List Value) (k : Nat) (c : List Value), (∀ j, j < r.length → o + k + j < c.length) → ((r.zipIdx k).foldl (fun (cs : Array Value) (x : Value × Nat) => cs.setIfInBounds (o + x.2) x.1) c.toArray) = (c.take (o + k) ++ r ++ c.drop (o + k + r.length)).toArray := by
    intro r
    induction r with
    | nil => intro k c _; simp
    | cons v r ih =>
      intro k c hl
      have h0 := hl 0 (by simp)
      simp only [List.zipIdx_cons, List.foldl_cons, List.setIfInBounds_toArray]
      rw [ih (k + 1) (c.set (o + k) v) (fun j hj => by have := hl (j + 1) (by simp; omega); simp; omega)]
      congr 1
      apply List.ext_getElem?
      intro i
      simp only [List.getElem?_append, List.length_append, List.length_take, List.getElem?_take, List.getElem?_drop, List.length_set, List.length_cons, List.getElem?_set]
      have e1 : min (o + k) c.length = o + k := by omega
      have e2 : min (o + (k + 1)) c.length = o + k + 1 := by omega
      rw [e1, e2]
      by_cases h1 : i < o + k
      · have : ¬ o + k = i := by omega
        simp only [h1, this, if_false, show i < o + k + 1 + r.length by omega, show i < o + k + 1 by omega, show i < o + (k + 1) by omega, show i < o + k + (r.length + 1) by omega, if_true]
      · by_cases h2 : i = o + k
        · subst h2
          simp only [show o + k < o + k + 1 + r.length by omega, show o + k < o + k + 1 by omega, show o + k < o + (k + 1) by omega, show o + k < o + k + (r.length + 1) by omega, h1, if_true, if_false, Nat.sub_self]
          simp; omega
        · by_cases h3 : i < o + k + (r.length + 1)
          · simp only [show i < o + k + 1 + r.length by omega, show ¬ i < o + k + 1 by omega, h1, h3, if_true, if_false]
            rw [show i - (o + k) = (i - (o + k + 1)) + 1 by omega]; simp
          · simp only [show ¬ i < o + k + 1 + r.length by omega, h3, if_false]
            rw [if_neg (by omega)]; congr 1; omega
  have hl := hs.len
  have h0 := key r 0 c (fun j hj => by omega)
  have : r.toArray.zipIdx.foldl (fun cs (x, j) => cs.setIfInBounds (o + j) x) c.toArray = (r.zipIdx 0).foldl (fun (cs : Array Value) (x : Value × Nat) => cs.setIfInBounds (o + x.2) x.1) c.toArray := by
    rw [← Array.foldl_toList, Array.toList_zipIdx]
  rw [this, h0]
  congr 1
  apply List.ext_getElem?
  intro i
  rw [hs.get i]
  simp only [Nat.add_zero, List.getElem?_append, List.length_append, List.length_take, List.getElem?_take, List.getElem?_drop]
  have e1 : min o c.length = o := by omega
  rw [e1]
  by_cases h1 : i < o
  · rw [if_pos (by omega), if_pos h1, if_pos h1, if_neg (by omega)]
  · by_cases h2 : i < o + r.length
    · rw [if_pos h2, if_neg h1, if_pos (by omega)]
    · rw [if_neg h2, if_neg (by omega)]; congr 1; omega
theorem run_build {P : Program} {t : TypeId} {w : World} {c r : List Value} {ps : List (Nat × Value)} {fs : Array Field} (hf : P.underlying t = some (.struct fs)) (hz : zeroOf P t = some c) (hb : Bld P t c ps r) :
    (Instr.build t ps.toArray).run P w = .ok (.agg r.toArray) w := by
  obtain ⟨v, hv1, hv2⟩ := run_zeroT (P := P) (w := w) hz
  have hall : isStruct P t = true := by
    clear hf hz hv2
    induction hb with
    | nil h => exact h
    | cons _ _ _ _ _ ih => exact ih
  have hm : ∃ places : Array (Nat × Nat), (fs.mapM fun f => (do pure (f.offset, ← sizeOf f.type) : Sem (Nat × Nat))).run P w = .ok places w ∧ ∀ i : Nat, places[i]? = fieldPl P t i := by
    have hl : ∀ l : List Field, (∀ fd ∈ l, (tyOf P fd.type).isSome = true) → ∃ ps : List (Nat × Nat), (l.mapM fun f => (do pure (f.offset, ← sizeOf f.type) : Sem (Nat × Nat))).run P w = .ok ps w ∧ ps.map some = l.map fun fd => (tyOf P fd.type).map fun p => (fd.offset, p.2) := by
      intro l
      induction l with
      | nil => intro _; exact ⟨[], by simp, rfl⟩
      | cons fd l ih =>
        intro h
        obtain ⟨ps, h1, h2⟩ := ih (fun x hx => h x (List.mem_cons_of_mem _ hx))
        obtain ⟨⟨ag, k⟩, hk⟩ := Option.isSome_iff_exists.1 (h fd List.mem_cons_self)
        refine ⟨(fd.offset, k) :: ps, ?_, by simp [h2, hk]⟩
        simp only [List.mapM_cons, Sem.run_bind, run_sizeT hk, Result.andThen_ok, Sem.run_pure, h1]
    have hall' : ∀ fd ∈ fs.toList, (tyOf P fd.type).isSome = true := by
      simp only [isStruct, hf, Array.all_eq_true_iff_forall_mem] at hall
      intro fd hm
      exact hall fd (by simpa using hm)
    obtain ⟨ps, h1, h2⟩ := hl fs.toList hall'
    refine ⟨ps.toArray, ?_, fun i => ?_⟩
    · rw [Array.mapM_eq_mapM_toList, map_eq_pure_bind, Sem.run_bind, h1]; rfl
    · have h3 := congrArg (fun l => l[i]?) h2
      simp only [List.getElem?_map, Array.getElem?_toList] at h3
      unfold fieldPl
      simp only [hf, List.getElem?_toArray]
      cases hi : fs[i]? with
      | none => simp [hi] at h3; simp [h3]
      | some fd => simp [hi] at h3; obtain ⟨x, y, hx1, hx2⟩ := h3; simp [hx1, hx2]
  obtain ⟨places, hp, hpl⟩ := hm
  have hfill : Instr.fill (places[·]?) c.toArray ps = some r.toArray := by
    clear hp hall hf hz hv2
    induction hb with
    | nil h => rfl
    | cons h1 h2 h3 h4 _ ih =>
      unfold Instr.fill
      have hl := h4.len
      rw [hpl, h1]
      simp only [h2, List.size_toArray, h3]
      rw [if_neg (by simp; omega), fill_step h4]
      exact ih
  simp only [Instr.build, Sem.run_bind, hv1, hv2, Result.andThen_ok, run_underlying hf]
  rw [hp, Result.andThen_ok, hfill]
  rfl
section
variable {P : Program} {E : Env} {n : Nat} {Q : SPost} {f : Nat → Value} {L : List Blk} {ty : TypeId} {pos : String} {after : Array Edge} {d : Nat}
theorem ex_move {x : Operand} {v : Value} (hx : Ev f x v) : Ex P E f L ⟨some d, .move x, ty, pos, after, none⟩ v := .mk fun w _ => by simp [execOp, hx.eq]
theorem ex_assign {x : Operand} {v : Value} (hx : Ev f x v) : Ex P E f L ⟨some d, .assign x, ty, pos, after, none⟩ v := .mk fun w _ => by simp [execOp, hx.eq]
theorem ex_pick_t {c x y : Operand} {v : Value} (hc : Ev f c (.bool true)) (hx : Ev f x v) : Ex P E f L ⟨some d, .pick c x y, ty, pos, after, none⟩ v := .mk fun w _ => by simp [execOp, hc.eq, hx.eq, asBool]
theorem ex_pick_f {c x y : Operand} {v : Value} (hc : Ev f c (.bool false)) (hy : Ev f y v) : Ex P E f L ⟨some d, .pick c x y, ty, pos, after, none⟩ v := .mk fun w _ => by simp [execOp, hc.eq, hy.eq, asBool]
theorem ex_nilCheck {x : Operand} {a : Addr} (hx : Ev f x (.pointer (some a))) : Ex P E f L ⟨some d, .nilCheck x, ty, pos, after, none⟩ (.pointer (some a)) := .mk fun w _ => by simp [execOp, hx.eq]
theorem ex_extract {x : Operand} {vs : List Value} {i : Nat} {v : Value} (hx : Ev f x (.tuple vs.toArray)) (hi : Nth vs i v) : Ex P E f L ⟨some d, .extract x i, ty, pos, after, none⟩ v := .mk fun w _ => by
  simp [execOp, hx.eq, Instr.extract, hi.eq]
theorem ex_load1 {x : Operand} {t : TypeId} {b k : Nat} {c : List Value} {T : TypeId} {fz : Nat × Nat} {v : Value} (hx : Ev f x (.pointer (some ⟨b, k, none⟩))) (hT : tyOf P t = some (false, 1)) (hm : (b, .cells c.toArray T fz) ∈ L) (hk : Nth c k v) :
    Ex P E f L ⟨some d, .load t x, ty, pos, after, none⟩ v := .mk fun w hw => by
  simp [execOp, hx.eq, Instr.loadAt, Instr.sureAddr, run_load1 (P := P) hT (hw.get hm) hk.eq]
/-- the field's place: 'fieldOff' is a closed fact -/
@[irreducible] def fieldOff (P : Program) (s : TypeId) (i : Nat) : Option Nat :=
  match P.underlying s with
  | some (.struct fs) => (fs[i]?).bind fun fd => match tyOf P fd.type with
    | some (_, 0) => none
    | some (_, _ + 1) => some fd.offset
    | none => none
  | _ => none
theorem ex_fieldAddr {x : Operand} {s i : Nat} {b k o : Nat} (hx : Ev f x (.pointer (some ⟨b, k, none⟩))) (ho : fieldOff P s i = some o) : Ex P E f L ⟨some d, .fieldAddr s x i, ty, pos, after, none⟩ (.pointer (some ⟨b, k + o, none⟩)) := .mk fun w _ => by
  unfold fieldOff at ho
  cases hu : P.underlying s with
  | none => simp [hu] at ho
  | some ds =>
    cases ds <;> simp [hu] at ho
    rename_i fs
    cases hfd : fs[i]? with
    | none => simp [hfd] at ho
    | some fd =>
      cases ht : tyOf P fd.type with
      | none => simp [hfd, ht] at ho
      | some p =>
        obtain ⟨ag, sz⟩ := p
        cases sz with
        | zero => simp [hfd, ht] at ho
        | succ sz =>
          simp [hfd, ht] at ho
          subst ho
          have ha : (Addr.add ⟨b, k, none⟩ fd.offset) = ⟨b, k + fd.offset, none⟩ := by
            by_cases h : fd.offset = 0 <;> simp [Addr.add, h]
          simp [execOp, hx.eq, Instr.fieldAt, run_underlying hu, hfd, Instr.sureAddr, fieldPlace, run_sizeT ht, ha]
theorem ex_build {ps : List (Nat × Operand)} {vs : List (Nat × Value)} {t : TypeId} {z r : List Value} (hv : EvP f ps vs) (hz : zeroOf P t = some z) (hb : Bld P t z vs r) : Ex P E f L ⟨some d, .build t ps.toArray, ty, pos, after, none⟩ (.agg r.toArray) := .mk fun w _ => by
  have e : (ps.toArray.map fun (i, x) => (i, evO f x)) = vs.toArray := by rw [List.map_toArray, hv.eq]
  have hne : ∃ fs, P.underlying t = some (.struct fs) := hb.struct
  obtain ⟨fs, hfs⟩ := hne
  simp only [execOp, e]
  have := run_build (w := w) hfs hz hb
  rw [Sem.run_bind, this]
  rfl
theorem ex_not {x : Operand} {t : TypeId} {b : Bool} (hx : Ev f x (.bool b)) : Ex P E f L ⟨some d, .unOp .not t x, ty, pos, after, none⟩ (.bool (!b)) := .mk fun w _ => by simp [execOp, hx.eq, Op.unary]
/-! integers -/
section ints
variable {x y : Operand} {xt yt : TypeId} {k : IntKind} {a b : Int} (hx : Ev f x (.int k a)) (hy : Ev f y (.int k b))
include hx hy
theorem ex_add {c : Int} (hc : k.wrap (a + b) = c) : Ex P E f L ⟨some d, .binOp .add xt x y yt, ty, pos, after, none⟩ (.int k c) := .mk fun w _ => by subst hc; simp [execOp, hx.eq, hy.eq, eqGuard, binOp, Op.intArith]
theorem ex_sub {c : Int} (hc : k.wrap (a - b) = c) : Ex P E f L ⟨some d, .binOp .sub xt x y yt, ty, pos, after, none⟩ (.int k c) := .mk fun w _ => by subst hc; simp [execOp, hx.eq, hy.eq, eqGuard, binOp, Op.intArith]
theorem ex_lss : Ex P E f L ⟨some d, .binOp .lss xt x y yt, ty, pos, after, none⟩ (.bool (decide (a < b))) := .mk fun w _ => by simp [execOp, hx.eq, hy.eq, eqGuard, binOp, Op.intCmp]
theorem ex_leq : Ex P E f L ⟨some d, .binOp .leq xt x y yt, ty, pos, after, none⟩ (.bool (decide (a ≤ b))) := .mk fun w _ => by simp [execOp, hx.eq, hy.eq, eqGuard, binOp, Op.intCmp]
theorem ex_gtr : Ex P E f L ⟨some d, .binOp .gtr xt x y yt, ty, pos, after, none⟩ (.bool (decide (a > b))) := .mk fun w _ => by simp [execOp, hx.eq, hy.eq, eqGuard, binOp, Op.intCmp]
theorem ex_geq : Ex P E f L ⟨some d, .binOp .geq xt x y yt, ty, pos, after, none⟩ (.bool (decide (a ≥ b))) := .mk fun w _ => by simp [execOp, hx.eq, hy.eq, eqGuard, binOp, Op.intCmp]
theorem ex_eql : Ex P E f L ⟨some d, .binOp .eql xt x y yt, ty, pos, after, none⟩ (.bool (decide (a = b))) := .mk fun w _ => by
  have : (a == b) = decide (a = b) := by rw [Bool.eq_iff_iff]; simp
  simp [execOp, hx.eq, hy.eq, eqGuard, binOp, Op.intCmp, this]
theorem ex_neq : Ex P E f L ⟨some d, .binOp .neq xt x y yt, ty, pos, after, none⟩ (.bool (decide (a ≠ b))) := .mk fun w _ => by
  have : (a != b) = decide (a ≠ b) := by rw [Bool.eq_iff_iff]; simp
  simp [execOp, hx.eq, hy.eq, eqGuard, binOp, Op.intCmp, this]
end ints
section ints2
variable {x y : Operand} {xt yt : TypeId} {k : IntKind} {a b : Int} (hx : Ev f x (.int k a)) (hy : Ev f y (.int k b))
include hx hy
theorem ex_lss_t (h : a < b) : Ex P E f L ⟨some d, .binOp .lss xt x y yt, ty, pos, after, none⟩ (.bool true) := by have := ex_lss (P := P) (E := E) (L := L) (d := d) (ty := ty) (pos := pos) (after := after) (xt := xt) (yt := yt) hx hy; rwa [decide_eq_true h] at this
theorem ex_lss_f (h : ¬ a < b) : Ex P E f L ⟨some d, .binOp .lss xt x y yt, ty, pos, after, none⟩ (.bool false) := by have := ex_lss (P := P) (E := E) (L := L) (d := d) (ty := ty) (pos := pos) (after := after) (xt := xt) (yt := yt) hx hy; rwa [decide_eq_false h] at this
theorem ex_leq_t (h : a ≤ b) : Ex P E f L ⟨some d, .binOp .leq xt x y yt, ty, pos, after, none⟩ (.bool true) := by have := ex_leq (P := P) (E := E) (L := L) (d := d) (ty := ty) (pos := pos) (after := after) (xt := xt) (yt := yt) hx hy; rwa [decide_eq_true h] at this
theorem ex_leq_f (h : ¬ a ≤ b) : Ex P E f L ⟨some d, .binOp .leq xt x y yt, ty, pos, after, none⟩ (.bool false) := by have := ex_leq (P := P) (E := E) (L := L) (d := d) (ty := ty) (pos := pos) (after := after) (xt := xt) (yt := yt) hx hy; rwa [decide_eq_false h] at this
theorem ex_gtr_t (h : a > b) : Ex P E f L ⟨some d, .binOp .gtr xt x y yt, ty, pos, after, none⟩ (.bool true) := by have := ex_gtr (P := P) (E := E) (L := L) (d := d) (ty := ty) (pos := pos) (after := after) (xt := xt) (yt := yt) hx hy; rwa [decide_eq_true h] at this
theorem ex_gtr_f (h : ¬ a > b) : Ex P E f L ⟨some d, .binOp .gtr xt x y yt, ty, pos, after, none⟩ (.bool false) := by have := ex_gtr (P := P) (E := E) (L := L) (d := d) (ty := ty) (pos := pos) (after := after) (xt := xt) (yt := yt) hx hy; rwa [decide_eq_false h] at this
theorem ex_geq_t (h : a ≥ b) : Ex P E f L ⟨some d, .binOp .geq xt x y yt, ty, pos, after, none⟩ (.bool true) := by have := ex_geq (P := P) (E := E) (L := L) (d := d) (ty := ty) (pos := pos) (after := after) (xt := xt) (yt := yt) hx hy; rwa [decide_eq_true h] at this
theorem ex_geq_f (h : ¬ a ≥ b) : Ex P E f L ⟨some d, .binOp .geq xt x y yt, ty, pos, after, none⟩ (.bool false) := by have := ex_geq (P := P) (E := E) (L := L) (d := d) (ty := ty) (pos := pos) (after := after) (xt := xt) (yt := yt) hx hy; rwa [decide_eq_false h] at this
theorem ex_eql_t (h : a = b) : Ex P E f L ⟨some d, .binOp .eql xt x y yt, ty, pos, after, none⟩ (.bool true) := by have := ex_eql (P := P) (E := E) (L := L) (d := d) (ty := ty) (pos := pos) (after := after) (xt := xt) (yt := yt) hx hy; rwa [decide_eq_true h] at this
theorem ex_eql_f (h : ¬ a = b) : Ex P E f L ⟨some d, .binOp .eql xt x y yt, ty, pos, after, none⟩ (.bool false) := by have := ex_eql (P := P) (E := E) (L := L) (d := d) (ty := ty) (pos := pos) (after := after) (xt := xt) (yt := yt) hx hy; rwa [decide_eq_false h] at this
theorem ex_neq_t (h : ¬ a = b) : Ex P E f L ⟨some d, .binOp .neq xt x y yt, ty, pos, after, none⟩ (.bool true) := by have := ex_neq (P := P) (E := E) (L := L) (d := d) (ty := ty) (pos := pos) (after := after) (xt := xt) (yt := yt) hx hy; rwa [decide_eq_true h] at this
theorem ex_neq_f (h : a = b) : Ex P E f L ⟨some d, .binOp .neq xt x y yt, ty, pos, after, none⟩ (.bool false) := by have := ex_neq (P := P) (E := E) (L := L) (d := d) (ty := ty) (pos := pos) (after := after) (xt := xt) (yt := yt) hx hy; rwa [decide_eq_false (fun hn => hn h)] at this
end ints2
/-! comparisons by a fact on the operation's run -/
/-! memory that turns -/
theorem so_alloc {ops rest : List Oper} {t : TypeId} {z : List Value} (hz : zeroOf P t = some z) (hd : Nat.blt d n = true) (h : ∀ b, SO P E n ops Q rest (upd f d (.pointer (some ⟨b, 0, none⟩))) ((b, .cells z.toArray t) :: L)) :
    SO P E n ops Q (⟨some d, .alloc t, ty, pos, after, none⟩ :: rest) f L := so_turn (by simpa using hd) fun a w hr hh => by
  obtain ⟨v, hv, hc⟩ := run_zeroT (w := w) hz
  refine ⟨.value (.pointer (some ⟨w.heap.size, 0, none⟩)), w.alloc (.cells z.toArray t), ?_, .inr ⟨_, rfl, (h _).out _ _ (hr.put (by simpa [Nat.blt_eq] using hd) _) (hh.alloc _)⟩⟩
  simp only [execOp, Instr.alloc, Sem.run_bind, hv, Result.andThen_ok, newVar, newRow, newObj, hc]
  rfl
theorem so_box {ops rest : List Oper} {t : TypeId} {x : Operand} {v : Value} {c : List Value} (hx : Ev f x v) (hc : v.cells = c.toArray) (hd : Nat.blt d n = true) (h : ∀ b, SO P E n ops Q rest (upd f d (.pointer (some ⟨b, 0, none⟩))) ((b, .cells c.toArray t) :: L)) :
    SO P E n ops Q (⟨some d, .box t x, ty, pos, after, none⟩ :: rest) f L := so_turn (by simpa using hd) fun a w hr hh => by
  refine ⟨.value (.pointer (some ⟨w.heap.size, 0, none⟩)), w.alloc (.cells c.toArray t), ?_, .inr ⟨_, rfl, (h _).out _ _ (hr.put (by simpa [Nat.blt_eq] using hd) _) (hh.alloc _)⟩⟩
  simp only [execOp, Instr.box, Sem.run_bind, hx.eq, newVar, newRow, newObj, hc]
  rfl
theorem so_makeMap {ops rest : List Oper} {t : TypeId} (hd : Nat.blt d n = true) (h : ∀ b, SO P E n ops Q rest (upd f d (.map (some b))) ((b, .map #[] 0) :: L)) :
    SO P E n ops Q (⟨some d, .makeMap t none, ty, pos, after, none⟩ :: rest) f L := so_turn (by simpa using hd) fun a w hr hh => by
  refine ⟨.value (.map (some w.heap.size)), w.alloc (.map #[] 0), ?_, .inr ⟨_, rfl, (h _).out _ _ (hr.put (by simpa [Nat.blt_eq] using hd) _) (hh.alloc _)⟩⟩
  simp only [execOp, Instr.makeMap, Option.map, Sem.run_bind, newObj]
  rfl
/-- the cells r laid into c from place k on -/
theorem run_storeN {w : World} {b k m : Nat} {c r c' : List Value} {T t : TypeId} {v : Value} {ag : Bool} (hT : tyOf P t = some (ag, m)) (hb : w.heap[b]? = some (.cells c.toArray T)) (hv : v.cells = r.toArray) (hr : r.length = m) (hone : ∀ u ∈ r, u.oneCell' = true) (hs : SetSub c k r c') :
    ∃ w', (storeVar t ⟨b, k, none⟩ v).run P w = .ok () w' ∧ (w'.os, w'.output) = (w.os, w.output) ∧ w'.heap[b]? = some (.cells c'.toArray T) ∧ (∀ j, j ≠ b → w'.heap[j]? = w.heap[j]?) := by
  have hl := hs.len
  have h1 := run_storeCells_at (P := P) b k T r 0 c.toArray w hb (by simp; omega) hone
  refine ⟨w.setRow b c'.toArray, ?_, rfl, setRow_heap _ _ _ _ _ _ hb, fun j hj => setRow_other _ _ _ _ hj⟩
  have hc' : (c.take k ++ r ++ c.drop (k + r.length)) = c' := by
    apply List.ext_getElem?
    intro i
    rw [hs.get i]
    simp only [List.getElem?_append, List.length_append, List.length_take, List.getElem?_take, List.getElem?_drop]
    have e1 : min k c.length = k := by omega
    rw [e1]
    by_cases h1 : i < k
    · rw [if_pos (by omega), if_pos h1, if_pos h1, if_neg (by omega)]
    · by_cases h2 : i < k + r.length
      · rw [if_pos h2, if_neg h1, if_pos (by omega)]
      · rw [if_neg h2, if_neg (by omega)]; congr 1; omega
  simp only [Nat.add_zero, List.toList_toArray] at h1
  rw [hc'] at h1
  simp only [storeVar, Sem.run_bind, run_sizeT hT, Result.andThen_ok, hv]
  simpa [hr] using h1
theorem so_store {ops rest : List Oper} {t : TypeId} {x y : Operand} {v : Value} {ag : Bool} {b k m : Nat} {c r c' : List Value} {T : TypeId} {L' : List Blk} (hx : Ev f x (.pointer (some ⟨b, k, none⟩))) (hy : Ev f y v) (hT : tyOf P t = some (ag, m)) (hv : v.cells = r.toArray) (hr : r.length = m)
    (hone : r.all (·.oneCell') = true) (ht : Turn L b (.cells c.toArray T) (.cells c'.toArray T) L') (hs : SetSub c k r c') (h : SO P E n ops Q rest f L') :
    SO P E n ops Q (⟨none, .store t x y, ty, pos, after, none⟩ :: rest) f L := so_turn (by simp) fun a w hr' hh => by
  obtain ⟨w', hrun, h1, h2, h3⟩ := run_storeN (P := P) hT (hh.get ht.mem) hv hr (by simpa using hone) hs
  refine ⟨.skip, w', ?_, .inl ⟨rfl, rfl, h.out _ _ hr' (hh.turn ht h1 h2 (fun j hj _ => h3 j hj))⟩⟩
  simp [execOp, hx.eq, hy.eq, Instr.storeAt, Instr.sureAddr, hrun]
/-! ### calls -/
theorem EvL.eq {f : Nat → Value} {xs : List Operand} {vs : List Value} (h : EvL f xs vs) : xs.map (evO f) = vs := by
  induction h with
  | nil => rfl
  | cons h _ ih => simp [h.eq, ih]
theorem App.eq {l m r : List Value} (h : App l m r) : l ++ m = r := by induction h <;> simp_all
/-- function g has a body -/
structure Enters (P : Program) (g : FuncId) : Prop where
  out : ∀ args w, (callFunc g args).run P w = .ok (.enter g args) w
theorem run_call {x : Operand} {g : FuncId} {xs : List Operand} {vs cap all : List Value} {tys : Array TypeId} {dd : Option Nat} (hf : Ev f x (.func (.func g) #[] cap.toArray)) (hx : EvL f xs vs) (ha : App vs cap all) (he : Enters P g) (w : World) :
    (execOp (evO f) ⟨dd, .call ⟨.value x, xs.toArray, tys⟩, ty, pos, after, none⟩).run P w = .ok (.enter g all.toArray) w := by
  have h1 : (xs.toArray.map (evO f)) = vs.toArray := by rw [List.map_toArray, hx.eq]
  have h2 : vs.toArray ++ cap.toArray = all.toArray := by rw [List.append_toArray, ha.eq]
  simp only [execOp, resolve, hf.eq, h1, Deferred.ofValue]
  simp [invoke, h2, he.out all.toArray w]
theorem so_call {ops rest : List Oper} {x : Operand} {g : FuncId} {xs : List Operand} {vs cap all : List Value} {tys : Array TypeId} {pre R : List Blk} {post : Value → List Blk → Prop}
    (hf : Ev f x (.func (.func g) #[] cap.toArray)) (hx : EvL f xs vs) (ha : App vs cap all) (he : Enters P g) (hT : Tri P g all.toArray pre post) (hs : Sel L pre R) (hd : Nat.blt d n = true)
    (h : ∀ v L', post v L' → SO P E n ops Q rest (upd f d v) (L' ++ R)) : SO P E n ops Q (⟨some d, .call ⟨.value x, xs.toArray, tys⟩, ty, pos, after, none⟩ :: rest) f L := .mk fun a w hr hh =>
  wpList_plain rfl fun K hK => by
    unfold Oper.wp
    rw [hr.eval, run_call hf hx ha he]
    refine (hT.out E R w (hh.perm hs.perm)).mono fun e w' ⟨v, L', hev, hp, hh'⟩ => ?_
    subst hev
    exact hK _ _ ((h v L' hp).out _ _ (hr.put (by simpa [Nat.blt_eq] using hd) v) hh')
/-- a contract that leaves its blocks as they were, at one value -/
def TriQ (P : Program) (g : FuncId) (args : Array Value) (pre : List Blk) (v : Value) : Prop := Tri P g args pre fun u L => u = v ∧ L = pre
theorem sq_call {ops rest : List Oper} {K : (Nat → Value) → Prop} {x : Operand} {g : FuncId} {xs : List Operand} {vs cap all : List Value} {tys : Array TypeId} {pre R : List Blk} {v : Value}
    (hf : Ev f x (.func (.func g) #[] cap.toArray)) (hx : EvL f xs vs) (ha : App vs cap all) (he : Enters P g) (hT : TriQ P g all.toArray pre v) (hs : Sel L pre R) (hd : Nat.blt d n = true)
    (h : SQ P E n ops L K rest (upd f d v)) : SQ P E n ops L K (⟨some d, .call ⟨.value x, xs.toArray, tys⟩, ty, pos, after, none⟩ :: rest) f := .mk fun a hr => by
  refine wpQuiet_step fun K' hK => ?_
  rw [if_pos (by simp [Region.wanted])]
  refine ⟨v, fun w hw => ?_, hK _ (h.out _ (hr.put (by simpa [Nat.blt_eq] using hd) v))⟩
  unfold Oper.quietAt
  rw [hr.eval, run_call hf hx ha he]
  refine ⟨rfl, (hT.out E R w (hw.perm hs.perm)).mono fun e w' ⟨u, L', he, ⟨hu, hL⟩, hh'⟩ => ?_⟩
  subst hu hL
  exact ⟨he, hh'.perm hs.perm.symm⟩

theorem so_callq {ops rest : List Oper} {x : Operand} {g : FuncId} {xs : List Operand} {vs cap all : List Value} {tys : Array TypeId} {pre R : List Blk} {v : Value}
    (hf : Ev f x (.func (.func g) #[] cap.toArray)) (hx : EvL f xs vs) (ha : App vs cap all) (he : Enters P g) (hT : TriQ P g all.toArray pre v) (hs : Sel L pre R) (hd : Nat.blt d n = true)
    (h : SO P E n ops Q rest (upd f d v) L) : SO P E n ops Q (⟨some d, .call ⟨.value x, xs.toArray, tys⟩, ty, pos, after, none⟩ :: rest) f L :=
  so_call hf hx ha he hT hs hd fun u L' ⟨hu, hL⟩ => by subst hu hL; exact so_perm hs.perm.symm h
/-! ### a function's entry and its end -/
def resVal : List Value → Value
  | [v] => v
  | vs => .tuple vs.toArray
def fr : List Value → Nat → (Nat → Value)
  | [], _ => fun _ => undef
  | v :: vs, k => upd (fr vs (k + 1)) k v
theorem fr_eq (vs : List Value) : ∀ k t, fr vs k t = if k ≤ t then vs.getD (t - k) undef else undef := by
  induction vs with
  | nil => intro k t; simp [fr]
  | cons v vs ih =>
    intro k t
    unfold fr upd
    by_cases h : t = k
    · subst h; simp
    · rw [if_neg h, ih]
      by_cases h2 : k + 1 ≤ t
      · rw [if_pos h2, if_pos (by omega), show t - k = (t - (k + 1)) + 1 by omega]; rfl
      · rw [if_neg h2]
        by_cases h3 : k ≤ t
        · omega
        · rw [if_neg h3]
def retPost (P : Program) (res : List ResultVar) (post : Value → List Blk → Prop) (R : List Blk) : SPost := fun e f L =>
  (e = .normal ∨ e = .ret) ∧ ∃ vs L' G, Res P L f res vs ∧ post (resVal vs) L' ∧ L.Perm (L' ++ R ++ G)
def resOne (tmps : Array Value) : ResultVar → Sem Value
  | .tmp t => pure (tmps.getD t undef)
  | .cell a t => do loadVar t (← asAddr (tmps.getD a undef))
theorem run_results {fn : Func} {rs : List ResultVar} {vs : List Value} {tmps : Array Value} {w : World} (hr : fn.results = rs.toArray) (hl : rs.length ≤ 3) (hlen : rs.length = vs.length) (h : ∀ (i : Nat) r v, rs[i]? = some r → vs[i]? = some v → (resOne tmps r).run P w = .ok v w) :
    (results fn tmps).run P w = .ok (resVal vs) w := by
  have e : results fn tmps = (do let vs ← fn.results.mapM (resOne tmps); pure (if h : vs.size = 1 then vs[0] else .tuple vs)) := by
    unfold results
    congr 2
  rw [e, hr]
  clear e hr
  revert h hl
  match rs, vs, hlen with
  | [], [], _ => intro _ _; simp [resVal]
  | [r1], [v1], _ =>
    intro _ h
    have h1 := h 0 r1 v1 rfl rfl
    simp [h1, resVal]
  | [r1, r2], [v1, v2], _ =>
    intro _ h
    have h1 := h 0 r1 v1 rfl rfl
    have h2 := h 1 r2 v2 rfl rfl
    simp [h1, h2, resVal]
  | [r1, r2, r3], [v1, v2, v3], _ =>
    intro _ h
    have h1 := h 0 r1 v1 rfl rfl
    have h2 := h 1 r2 v2 rfl rfl
    have h3 := h 2 r3 v3 rfl rfl
    simp [h1, h2, h3, resVal]
  | _ :: _ :: _ :: _ :: _, _, _ => intro hl; simp at hl
theorem Res.spec {L : List Blk} {f : Nat → Value} {rs : List ResultVar} {vs : List Value} (h : Res P L f rs vs) {E : Env} {w : World} (hw : HP E w L) {n : Nat} {a : Act} (hr : Rep n f a) :
    rs.length = vs.length ∧ ∀ (i : Nat) r v, rs[i]? = some r → vs[i]? = some v → (resOne a.tmps r).run P w = .ok v w := by
  induction h with
  | nil => exact ⟨rfl, fun i r v h => by simp at h⟩
  | tmp hv _ ih =>
    refine ⟨by simp [ih.1], fun i r v hi hj => ?_⟩
    cases i with
    | zero => simp at hi hj; subst hi hj; have := hv.eq; simp only [evO] at this; simp only [resOne, hr.get, this]; rfl
    | succ i => exact ih.2 i r v (by simpa using hi) (by simpa using hj)
  | one ha hT hm hk _ ih =>
    refine ⟨by simp [ih.1], fun i r v hi hj => ?_⟩
    cases i with
    | zero => simp at hi hj; subst hi hj; have := ha.eq; simp only [evO] at this; simp [resOne, hr.get, this, asAddr, run_load1 (P := P) hT (hw.get hm) hk.eq]
    | succ i => exact ih.2 i r v (by simpa using hi) (by simpa using hj)
  | agg ha hT hm hk _ ih =>
    refine ⟨by simp [ih.1], fun i r v hi hj => ?_⟩
    cases i with
    | zero => simp at hi hj; subst hi hj; have := ha.eq; simp only [evO] at this; simp [resOne, hr.get, this, asAddr, run_loadN (P := P) hT (hw.get hm) hk.eq hk.len]
    | succ i => exact ih.2 i r v (by simpa using hi) (by simpa using hj)
inductive AppB : List Blk → List Blk → List Blk → Prop
  | nil {R} : AppB [] R R
  | cons {p G R M} : AppB G R M → AppB (p :: G) R (p :: M)
  | self {G R} : AppB G R (G ++ R)
theorem AppB.eq {G R M : List Blk} (h : AppB G R M) : M = G ++ R := by induction h <;> simp_all
theorem ret_ok {rs : List ResultVar} {post : Value → List Blk → Prop} {R L' M G : List Blk} {vs : List Value} (hres : Res P L f rs vs) (hpost : post (resVal vs) L') (hs : Sel L L' M) (hg : AppB G R M) : retPost P rs post R .ret f L := by
  refine ⟨.inr rfl, vs, L', G, hres, hpost, hs.perm.trans ?_⟩
  rw [hg.eq, List.append_assoc]
  exact (List.perm_append_comm).append_left _
theorem ret_ok' {rs : List ResultVar} {post : Value → List Blk → Prop} {R L' M G : List Blk} {vs : List Value} (hres : Res P L f rs vs) (hpost : post (resVal vs) L') (hs : Sel L L' M) (hg : AppB G R M) : retPost P rs post R .normal f L := by
  refine ⟨.inl rfl, vs, L', G, hres, hpost, hs.perm.trans ?_⟩
  rw [hg.eq, List.append_assoc]
  exact (List.perm_append_comm).append_left _
theorem HP.left {E : Env} {w : World} {A B : List Blk} (h : HP E w (A ++ B)) : HP E w A := h.sub (List.sublist_append_left _ _)
/-- A contract, from the function's body. -/
theorem tri_intro {g : FuncId} {fn : Func} {c : Code} {args : List Value} {pre : List Blk} {post : Value → List Blk → Prop} {rs : List ResultVar} {n : Nat} (hf : P.funcs[g]? = some fn) (hb : fn.body = some c) (hn : fn.ntmps = n) (ha : Nat.ble args.length n = true) (hr : fn.results = rs.toArray) (hl : Nat.ble rs.length 3 = true)
    (h : ∀ E R, SC P E n c (retPost P rs post R) (fr args 0) (pre ++ R)) : Tri P g args.toArray pre post := .mk fun E R w hh => by
  have ha := Nat.le_of_ble_eq_true ha
  have hl := Nat.le_of_ble_eq_true hl
  refine calls_of_wp hf hb ?_
  have hrep : Rep n (fr args 0) { tmps := args.toArray ++ Array.replicate (fn.ntmps - args.toArray.size) undef, defers := [] } := by
    refine ⟨by simp [hn]; omega, rfl, fun t => ?_⟩
    rw [fr_eq]
    simp only [Nat.zero_le, if_true, Nat.sub_zero]
    by_cases ht : t < args.length
    · simp [Array.getElem?_append, ht]
    · simp [Array.getElem?_append, ht, Array.getElem?_replicate]
      split <;> simp
  refine wp_mono ((h E R).out _ w hrep hh) fun e a w' ⟨f', L', r, hp, ⟨he, vs, L'', G, hres, hpost, hperm⟩⟩ => ?_
  have hs := hres.spec hp r
  have hrun := run_results (P := P) (tmps := a.tmps) (w := w') hr hl hs.1 hs.2
  have hfin : ∃ v L, Ending.returned (resVal vs) = .returned v ∧ post v L ∧ HP E w' (L ++ R) := ⟨_, L'', rfl, hpost, (hp.perm hperm).left⟩
  rcases he with rfl | rfl
  · exact ⟨r.defers, _, hrun, hfin⟩
  · exact ⟨r.defers, _, hrun, hfin⟩
end
end Go.Sym
