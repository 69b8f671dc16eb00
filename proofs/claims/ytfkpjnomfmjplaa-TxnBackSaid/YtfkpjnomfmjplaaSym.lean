/- Sym: a small logic for walks. A goal speaks of a frame f (slot ↦ value) and of a list L of blocks whose whole content is known; everything else in memory is kept. -/
import Derived.WalkKit
import Derived.Deep.Quiet
import Derived.Deep.LoopGhost
import Derived.Still
set_option linter.unusedVariables false
set_option linter.unusedSimpArgs false
set_option linter.unnecessarySimpa false
namespace Go.Sym
open Go

abbrev Env := Os × Array (Nat × ByteArray)
abbrev Blk := Nat × Obj

/-- The blocks of L hold what L says, and are different ones. -/
structure HP (E : Env) (w : World) (L : List Blk) : Prop where
  env : (w.os, w.output) = E
  facts : ∀ p ∈ L, w.heap[p.1]? = some p.2
  nodup : (L.map (·.1)).Nodup

theorem HP.get {E : Env} {w : World} {L : List Blk} (h : HP E w L) {b : Nat} {o : Obj} (hm : (b, o) ∈ L) : w.heap[b]? = some o := h.facts _ hm
theorem HP.lt {E : Env} {w : World} {L : List Blk} (h : HP E w L) {p : Blk} (hm : p ∈ L) : p.1 < w.heap.size := (Array.getElem?_eq_some_iff.1 (h.facts _ hm)).1
theorem HP.perm {E : Env} {w : World} {L L' : List Blk} (h : HP E w L) (hp : L.Perm L') : HP E w L' :=
  ⟨h.env, fun p hm => h.facts p (hp.mem_iff.2 hm), (hp.map _).nodup_iff.1 h.nodup⟩
theorem HP.drew {E : Env} {w : World} {L : List Blk} (h : HP E w L) : HP E { w with drawn := w.drawn + 1 } L := ⟨h.env, h.facts, h.nodup⟩
theorem HP.sub {E : Env} {w : World} {L L' : List Blk} (h : HP E w L) (hs : L'.Sublist L) : HP E w L' :=
  ⟨h.env, fun p hm => h.facts p (hs.subset hm), h.nodup.sublist (hs.map _)⟩
theorem HP.alloc {E : Env} {w : World} {L : List Blk} (h : HP E w L) (o : Obj) : HP E (w.alloc o) ((w.heap.size, o) :: L) := by
  refine ⟨h.env, ?_, ?_⟩
  · intro p hm
    rcases List.mem_cons.1 hm with rfl | hm
    · show (w.heap.push o)[w.heap.size]? = _; simp
    · have := h.lt hm
      show (w.heap.push o)[p.1]? = _
      rw [Array.getElem?_push, if_neg (by omega)]
      exact h.facts p hm
  · rw [List.map_cons, List.nodup_cons]
    refine ⟨fun hm => ?_, h.nodup⟩
    obtain ⟨p, hp, he⟩ := List.mem_map.1 hm
    have := h.lt hp
    omega

/-- L' is L with the content of block b turned from o to o'. -/
inductive Turn : List Blk → Nat → Obj → Obj → List Blk → Prop
  | here {L b o o'} : Turn ((b, o) :: L) b o o' ((b, o') :: L)
  | there {p L b o o' L'} : Turn L b o o' L' → Turn (p :: L) b o o' (p :: L')
theorem Turn.mem {L L' : List Blk} {b : Nat} {o o' : Obj} (h : Turn L b o o' L') : (b, o) ∈ L := by
  induction h with
  | here => exact List.mem_cons_self
  | there _ ih => exact List.mem_cons_of_mem _ ih
theorem Turn.keys {L L' : List Blk} {b : Nat} {o o' : Obj} (h : Turn L b o o' L') : L'.map (·.1) = L.map (·.1) := by
  induction h with
  | here => rfl
  | there _ ih => simp [ih]
theorem Turn.mem' {L L' : List Blk} {b : Nat} {o o' : Obj} (h : Turn L b o o' L') (hn : (L.map (·.1)).Nodup) : ∀ p ∈ L', p = (b, o') ∨ (p ∈ L ∧ p.1 ≠ b) := by
  induction h with
  | here =>
    intro p hm
    rcases List.mem_cons.1 hm with rfl | hm
    · exact .inl rfl
    · refine .inr ⟨List.mem_cons_of_mem _ hm, fun he => ?_⟩
      rw [List.map_cons, List.nodup_cons] at hn
      exact hn.1 (List.mem_map.2 ⟨p, hm, he⟩)
  | there hT ih =>
    intro p hm
    rw [List.map_cons, List.nodup_cons] at hn
    rcases List.mem_cons.1 hm with rfl | hm
    · refine .inr ⟨List.mem_cons_self, fun he => ?_⟩
      exact hn.1 (List.mem_map.2 ⟨_, hT.mem, he.symm⟩)
    · rcases ih hn.2 p hm with rfl | ⟨h1, h2⟩
      · exact .inl rfl
      · exact .inr ⟨List.mem_cons_of_mem _ h1, h2⟩
/-- A world in which block b alone has turned. -/
theorem HP.turn {E : Env} {w w' : World} {L L' : List Blk} {b : Nat} {o o' : Obj} (h : HP E w L) (hT : Turn L b o o' L') (he : (w'.os, w'.output) = (w.os, w.output))
    (hb : w'.heap[b]? = some o') (hk : ∀ k, k ≠ b → k < w.heap.size → w'.heap[k]? = w.heap[k]?) : HP E w' L' := by
  refine ⟨he.trans h.env, fun p hm => ?_, by rw [hT.keys]; exact h.nodup⟩
  rcases hT.mem' h.nodup p hm with rfl | ⟨h1, h2⟩
  · exact hb
  · rw [hk _ h2 (h.lt h1)]; exact h.facts p h1

/-- The blocks of ps, taken out of L, leave R. -/
inductive Pick : List Blk → Blk → List Blk → Prop
  | here {p L} : Pick (p :: L) p L
  | there {q L p R} : Pick L p R → Pick (q :: L) p (q :: R)
inductive Sel : List Blk → List Blk → List Blk → Prop
  | nil {L} : Sel L [] L
  | cons {L p R ps R'} : Pick L p R → Sel R ps R' → Sel L (p :: ps) R'
theorem Pick.perm {L R : List Blk} {p : Blk} (h : Pick L p R) : L.Perm (p :: R) := by
  induction h with
  | here => exact .refl _
  | there _ ih => exact (ih.cons _).trans (.swap _ _ _)
theorem Sel.perm {L ps R : List Blk} (h : Sel L ps R) : L.Perm (ps ++ R) := by
  induction h with
  | nil => exact .refl _
  | cons hp _ ih => exact hp.perm.trans (ih.cons _)

/-- A function's contract: from blocks 'pre' it returns v and leaves blocks L with 'post v L'; all other known blocks are kept. -/
structure Tri (P : Program) (f : FuncId) (args : Array Value) (pre : List Blk) (post : Value → List Blk → Prop) : Prop where
  out : ∀ (E : Env) (R : List Blk) (w : World), HP E w (pre ++ R) → Calls P f args w fun e w' => ∃ v L, e = .returned v ∧ post v L ∧ HP E w' (L ++ R)
theorem Tri.mono {P : Program} {f : FuncId} {args : Array Value} {pre : List Blk} {post post' : Value → List Blk → Prop} (h : Tri P f args pre post) (hp : ∀ v L, post v L → post' v L) : Tri P f args pre post' :=
  .mk fun E R w H => (h.out E R w H).mono fun _ _ ⟨v, L, he, hq, H'⟩ => ⟨v, L, he, hp _ _ hq, H'⟩

/-! ### frames -/
@[irreducible] def upd (f : Nat → Value) (d : Nat) (v : Value) : Nat → Value := fun t => if t = d then v else f t
def evO (f : Nat → Value) : Operand → Value
  | .tmp t => f t
  | .const v => v
  | .global g => .pointer (some ⟨g, 0, none⟩)
  | .func g => .func (.func g) #[] #[]
structure Rep (n : Nat) (f : Nat → Value) (a : Act) : Prop where
  size : a.tmps.size = n
  defers : a.defers = []
  get : ∀ t, a.tmps.getD t undef = f t
theorem Rep.eval {n : Nat} {f : Nat → Value} {a : Act} (h : Rep n f a) : a.eval = evO f := by
  funext x; cases x <;> simp only [Act.eval, evO]; exact h.get _
theorem Rep.put {n : Nat} {f : Nat → Value} {a : Act} (h : Rep n f a) {d : Nat} (hd : d < n) (v : Value) : Rep n (upd f d v) (a.put (some d) v) := by
  refine ⟨by simp [Act.put, h.size], by simpa [Act.put] using h.defers, fun t => ?_⟩
  unfold upd
  by_cases ht : t = d
  · subst ht; simp [Act.put, h.size, hd]
  · rw [if_neg ht, ← h.get t]
    simp [Act.put, Array.getElem?_setIfInBounds_ne (Ne.symm ht)]
/-- slot t of frame f holds v -/
structure At (f : Nat → Value) (t : Nat) (v : Value) : Prop where
  eq : f t = v
/-- What operand x is in frame f. -/
inductive Ev : (Nat → Value) → Operand → Value → Prop
  | const {f v} : Ev f (.const v) v
  | func {f g} : Ev f (.func g) (.func (.func g) #[] #[])
  | global {f g} : Ev f (.global g) (.pointer (some ⟨g, 0, none⟩))
  | same {f d v} : Ev (upd f d v) (.tmp d) v
  | other {f d t u v} : (Nat.beq t d = false) → Ev f (.tmp t) v → Ev (upd f d u) (.tmp t) v
  | base {f t v} : At f t v → Ev f (.tmp t) v
theorem Ev.eq {f : Nat → Value} {x : Operand} {v : Value} (h : Ev f x v) : evO f x = v := by
  induction h with
  | const => rfl
  | func => rfl
  | global => rfl
  | same => simp [evO, upd]
  | other hn _ ih =>
    rename_i d t u v _
    have : t ≠ d := fun e => by subst e; simp [Nat.beq_refl] at hn
    simpa [evO, upd, this] using ih
  | base h => exact h.eq
theorem Ev.at {f : Nat → Value} {t : Nat} {v : Value} (h : Ev f (.tmp t) v) : At f t v := ⟨h.eq⟩

/-! ### symbolic weakest preconditions -/
abbrev SPost := Exit → (Nat → Value) → List Blk → Prop
def up (E : Env) (n : Nat) (Q : SPost) : Exit → Act → World → Prop := fun e a w => ∃ f L, Rep n f a ∧ HP E w L ∧ Q e f L
def sThen (K : (Nat → Value) → List Blk → Prop) (Q : SPost) : SPost
  | .normal, f, L => K f L
  | e, f, L => Q e f L
def sBlock (id : Nat) (Q : SPost) : SPost
  | .exit id', f, L => if id' = id then Q .normal f L else Q (.exit id') f L
  | e, f, L => Q e f L

section
variable {P : Program} {E : Env} {n : Nat} {Q : SPost} {f : Nat → Value} {L : List Blk}
/-- code -/
structure SC (P : Program) (E : Env) (n : Nat) (c : Code) (Q : SPost) (f : Nat → Value) (L : List Blk) : Prop where
  out : ∀ a w, Rep n f a → HP E w L → c.wp P (up E n Q) a w
/-- the operations 'rest' of a region 'ops' -/
structure SO (P : Program) (E : Env) (n : Nat) (ops : List Oper) (Q : SPost) (rest : List Oper) (f : Nat → Value) (L : List Blk) : Prop where
  out : ∀ a w, Rep n f a → HP E w L → wpList P ops.toArray (up E n Q) rest a w

theorem SC.mono {c : Code} {Q' : SPost} (h : SC P E n c Q f L) (hq : ∀ e f L, Q e f L → Q' e f L) : SC P E n c Q' f L :=
  .mk fun a w hr hh => wp_mono (h.out a w hr hh) fun _ _ _ ⟨f, L, r, hp, q⟩ => ⟨f, L, r, hp, hq _ _ _ q⟩
theorem sc_perm {c : Code} {L' : List Blk} (hp : L.Perm L') (h : SC P E n c Q f L') : SC P E n c Q f L := .mk fun a w hr hh => h.out a w hr (hh.perm hp)
theorem so_perm {ops rest : List Oper} {L' : List Blk} (hp : L.Perm L') (h : SO P E n ops Q rest f L') : SO P E n ops Q rest f L := .mk fun a w hr hh => h.out a w hr (hh.perm hp)
theorem sc_seq {x y : Code} (h : SC P E n x (sThen (SC P E n y Q) Q) f L) : SC P E n (.seq x y) Q f L := .mk fun a w hr hh =>
  wp_seq (wp_mono (h.out a w hr hh) fun e a' w' ⟨f', L', r, hp, q⟩ => by
    cases e with
    | normal => exact q.out a' w' r hp
    | _ => exact ⟨f', L', r, hp, q⟩)
theorem nm_block {id : Nat} (h : Q .normal f L) : sBlock id Q .normal f L := h
theorem nm_then {K : (Nat → Value) → List Blk → Prop} (h : K f L) : sThen K Q .normal f L := h
theorem rt_block {id : Nat} (h : Q .ret f L) : sBlock id Q .ret f L := h
theorem rt_then {K : (Nat → Value) → List Blk → Prop} (h : Q .ret f L) : sThen K Q .ret f L := h
theorem et_then {i : Nat} {K : (Nat → Value) → List Blk → Prop} (h : Q (.exit i) f L) : sThen K Q (.exit i) f L := h
theorem et_hit {id : Nat} (h : Q .normal f L) : sBlock id Q (.exit id) f L := by simpa [sBlock] using h
theorem et_miss {i id : Nat} (hb : Nat.beq i id = false) (h : Q (.exit i) f L) : sBlock id Q (.exit i) f L := by
  have : i ≠ id := fun e => by subst e; simp [Nat.beq_refl] at hb
  simpa [sBlock, this] using h
theorem sc_skip (h : Q .normal f L) : SC P E n .skip Q f L := .mk fun a w hr hh => wp_skip ⟨f, L, hr, hh, h⟩
theorem sc_ret (h : Q .ret f L) : SC P E n .ret Q f L := .mk fun a w hr hh => wp_ret ⟨f, L, hr, hh, h⟩
theorem sc_exit {id : Nat} (h : Q (.exit id) f L) : SC P E n (.exit id) Q f L := .mk fun a w hr hh => wp_exit ⟨f, L, hr, hh, h⟩
theorem sc_cond {c : Operand} {x y : Code} {t : Bool} (hc : Ev f c (.bool t)) (ht : t = true → SC P E n x Q f L) (hf : t = false → SC P E n y Q f L) : SC P E n (.cond c x y) Q f L := .mk fun a w hr hh =>
  wp_cond_split (t := t) (by rw [hr.eval]; exact hc.eq) (fun h => (ht h).out a w hr hh) (fun h => (hf h).out a w hr hh)
theorem sc_cond_true {c : Operand} {x y : Code} (hc : Ev f c (.bool true)) (h : SC P E n x Q f L) : SC P E n (.cond c x y) Q f L := sc_cond hc (fun _ => h) (fun h => by cases h)
theorem sc_cond_false {c : Operand} {x y : Code} (hc : Ev f c (.bool false)) (h : SC P E n y Q f L) : SC P E n (.cond c x y) Q f L := sc_cond hc (fun h => by cases h) (fun _ => h)
theorem sc_block {id : Nat} {c : Code} (h : SC P E n c (sBlock id Q) f L) : SC P E n (.block id c) Q f L := .mk fun a w hr hh =>
  wp_block (wp_mono (h.out a w hr hh) fun e a' w' ⟨f', L', r, hp, q⟩ => by
    cases e with
    | exit id' =>
      by_cases hid : id' = id
      · subst hid; simp only [sBlock, if_true] at q; simp only [Exit.inBlock, if_true]; exact ⟨f', L', r, hp, q⟩
      · simp only [sBlock, hid, if_false] at q; simp only [Exit.inBlock, hid, if_false]; exact ⟨f', L', r, hp, q⟩
    | _ => exact ⟨f', L', r, hp, q⟩)
/-- A loop: J k f L: the relation, at most k rounds being still to come. -/
theorem sc_loop {c : Code} (J : Nat → (Nat → Value) → List Blk → Prop) (k0 : Nat) (h0 : J k0 f L)
    (round : ∀ k f L, J k f L → SC P E n c (sThen (fun f' L' => ∃ k', k' < k ∧ J k' f' L') Q) f L) : SC P E n (.loop c) Q f L := .mk fun a w hr hh =>
  wp_loop_ghost (fun k a w => ∃ f L, Rep n f a ∧ HP E w L ∧ J k f L) k0 ⟨f, L, hr, hh, h0⟩ fun k a w ⟨f, L, r, hp, j⟩ =>
    wp_mono ((round k f L j).out a w r hp) fun e a' w' ⟨f', L', r', hp', q⟩ => by
      cases e with
      | normal => obtain ⟨k', hk, hj⟩ := q; exact ⟨k', hk, f', L', r', hp', hj⟩
      | _ => exact ⟨f', L', r', hp', q⟩
theorem sc_region {id : Nat} {ops : List Oper} (h : SO P E n ops Q ops f L) : SC P E n (.region id ops.toArray false) Q f L := .mk fun a w hr hh => wp_region_lit (h.out a w hr hh)
theorem so_nil {ops : List Oper} (h : Q .normal f L) : SO P E n ops Q [] f L := .mk fun a w hr hh => wpList_nil ⟨f, L, hr, hh, h⟩

/-- An operation that leaves the world alone yields v. -/
structure Ex (P : Program) (E : Env) (f : Nat → Value) (L : List Blk) (o : Oper) (v : Value) : Prop where
  out : ∀ w, HP E w L → (execOp (evO f) o).run P w = .ok (.value v) w
theorem so_ex {ops rest : List Oper} {d : Nat} {op : Op} {ty : TypeId} {pos : String} {after : Array Edge} {v : Value} (hx : Ex P E f L ⟨some d, op, ty, pos, after, none⟩ v) (hd : Nat.blt d n = true)
    (h : SO P E n ops Q rest (upd f d v) L) : SO P E n ops Q (⟨some d, op, ty, pos, after, none⟩ :: rest) f L := .mk fun a w hr hh =>
  wpList_plain rfl fun K hK => by
    unfold Oper.wp
    rw [hr.eval, hx.out w hh]
    exact hK _ _ (h.out _ _ (hr.put (by simpa [Nat.blt_eq] using hd) v) hh)
/-- An operation that turns the world. -/
theorem so_turn {ops rest : List Oper} {d : Option Nat} {op : Op} {ty : TypeId} {pos : String} {after : Array Edge} (hd : d.all (fun d => Nat.blt d n) = true)
    (h : ∀ a w, Rep n f a → HP E w L → ∃ nx w', (execOp (evO f) ⟨d, op, ty, pos, after, none⟩).run P w = .ok nx w' ∧
      ((nx = .skip ∧ d = none ∧ wpList P ops.toArray (up E n Q) rest a w') ∨ ∃ v, nx = .value v ∧ wpList P ops.toArray (up E n Q) rest (a.put d v) w')) :
    SO P E n ops Q (⟨d, op, ty, pos, after, none⟩ :: rest) f L := .mk fun a w hr hh => by
  obtain ⟨nx, w', hrun, h2⟩ := h a w hr hh
  refine wpList_plain rfl fun K hK => ?_
  unfold Oper.wp
  rw [hr.eval, hrun]
  rcases h2 with ⟨rfl, rfl, h2⟩ | ⟨v, rfl, h2⟩
  · exact hK a w' h2
  · exact hK _ _ h2
/-- guards -/
theorem so_skip {ops rest : List Oper} {d : Nat} {op : Op} {ty : TypeId} {pos : String} {after : Array Edge} {j : Nat} {b c : Bool} {dj : Nat} (hj : ((ops[j]?).bind (·.dst)) = some dj) (hv : Ev f (.tmp dj) (.bool c)) (hc : (c == b) = false) (hd : Nat.blt d n = true) (hdj : Nat.blt dj n = true)
    (h : SO P E n ops Q rest (upd f d undef) L) : SO P E n ops Q (⟨some d, op, ty, pos, after, some (j, b)⟩ :: rest) f L := .mk fun a w hr hh => by
  refine wpList_skip ?_ (h.out _ _ (hr.put (by simpa [Nat.blt_eq] using hd) undef) hh)
  have h1 : a.tmps[dj]? = some (.bool c) := by
    have h2 := hr.get dj; have h3 := hv.eq; simp only [evO] at h3; rw [h3] at h2
    have h4 : dj < a.tmps.size := by rw [hr.size]; simpa [Nat.blt_eq] using hdj
    simp [h4] at h2 ⊢; exact h2
  simp [Region.wanted, yielded, hj, h1]
  intro hcb; subst hcb; simp at hc
theorem so_skipu {ops rest : List Oper} {d : Nat} {op : Op} {ty : TypeId} {pos : String} {after : Array Edge} {j : Nat} {b : Bool} {dj : Nat} (hj : ((ops[j]?).bind (·.dst)) = some dj) (hv : Ev f (.tmp dj) undef) (hd : Nat.blt d n = true) (hdj : Nat.blt dj n = true)
    (h : SO P E n ops Q rest (upd f d undef) L) : SO P E n ops Q (⟨some d, op, ty, pos, after, some (j, b)⟩ :: rest) f L := .mk fun a w hr hh => by
  refine wpList_skip ?_ (h.out _ _ (hr.put (by simpa [Nat.blt_eq] using hd) undef) hh)
  have h1 : a.tmps[dj]? = some undef := by
    have h2 := hr.get dj; have h3 := hv.eq; simp only [evO] at h3; rw [h3] at h2
    have h4 : dj < a.tmps.size := by rw [hr.size]; simpa [Nat.blt_eq] using hdj
    simp [h4] at h2 ⊢; exact h2
  simp [Region.wanted, yielded, hj, h1, undef]
theorem so_want {ops rest : List Oper} {d : Option Nat} {op : Op} {ty : TypeId} {pos : String} {after : Array Edge} {j : Nat} {b c : Bool} {dj : Nat} (hj : ((ops[j]?).bind (·.dst)) = some dj) (hv : Ev f (.tmp dj) (.bool c)) (hc : (c == b) = true) (hdj : Nat.blt dj n = true)
    (h : SO P E n ops Q (⟨d, op, ty, pos, after, none⟩ :: rest) f L) : SO P E n ops Q (⟨d, op, ty, pos, after, some (j, b)⟩ :: rest) f L := .mk fun a w hr hh => by
  have h1 : a.tmps[dj]? = some (.bool c) := by
    have h2 := hr.get dj; have h3 := hv.eq; simp only [evO] at h3; rw [h3] at h2
    have h4 : dj < a.tmps.size := by rw [hr.size]; simpa [Nat.blt_eq] using hdj
    simp [h4] at h2 ⊢; exact h2
  have hcb : c = b := by simpa using hc
  have hw : Region.wanted (⟨d, op, ty, pos, after, some (j, b)⟩ : Oper) (yielded ops.toArray a.tmps) = true := by
    simp [Region.wanted, yielded, hj, h1, hcb]
  have := h.out a w hr hh
  unfold wpList at this ⊢
  rw [if_pos (by simp [Region.wanted])] at this
  rw [if_pos hw]
  exact this

/-! ### regions that draw their order -/
/-- the operations 'rest', quiet over the blocks L -/
structure SQ (P : Program) (E : Env) (n : Nat) (ops : List Oper) (L : List Blk) (K : (Nat → Value) → Prop) (rest : List Oper) (f : Nat → Value) : Prop where
  out : ∀ a, Rep n f a → wpQuiet P ops.toArray (fun w => HP E w L) (fun a' => ∃ f', Rep n f' a' ∧ K f') rest a
theorem sq_nil {ops : List Oper} {K : (Nat → Value) → Prop} (h : K f) : SQ P E n ops L K [] f := .mk fun a hr => wpQuiet_nil ⟨f, hr, h⟩
theorem sq_ex {ops rest : List Oper} {K : (Nat → Value) → Prop} {d : Nat} {op : Op} {ty : TypeId} {pos : String} {after : Array Edge} {v : Value} (hx : Ex P E f L ⟨some d, op, ty, pos, after, none⟩ v) (hd : Nat.blt d n = true)
    (h : SQ P E n ops L K rest (upd f d v)) : SQ P E n ops L K (⟨some d, op, ty, pos, after, none⟩ :: rest) f := .mk fun a hr => by
  refine wpQuiet_step fun K' hK => ?_
  rw [if_pos (by simp [Region.wanted])]
  refine ⟨v, fun w hw => ?_, hK _ (h.out _ (hr.put (by simpa [Nat.blt_eq] using hd) v))⟩
  unfold Oper.quietAt
  rw [hr.eval, hx.out w hw]
  exact ⟨rfl, rfl⟩
theorem sq_skip {ops rest : List Oper} {K : (Nat → Value) → Prop} {d : Nat} {op : Op} {ty : TypeId} {pos : String} {after : Array Edge} {j : Nat} {b c : Bool} {dj : Nat} (hj : ((ops[j]?).bind (·.dst)) = some dj) (hv : Ev f (.tmp dj) (.bool c)) (hc : (c == b) = false) (hd : Nat.blt d n = true) (hdj : Nat.blt dj n = true)
    (h : SQ P E n ops L K rest (upd f d undef)) : SQ P E n ops L K (⟨some d, op, ty, pos, after, some (j, b)⟩ :: rest) f := .mk fun a hr => by
  refine wpQuiet_step fun K' hK => ?_
  have h1 : a.tmps[dj]? = some (.bool c) := by
    have h2 := hr.get dj; have h3 := hv.eq; simp only [evO] at h3; rw [h3] at h2
    have h4 : dj < a.tmps.size := by rw [hr.size]; simpa [Nat.blt_eq] using hdj
    simp [h4] at h2 ⊢; exact h2
  have hw : Region.wanted (⟨some d, op, ty, pos, after, some (j, b)⟩ : Oper) (yielded ops.toArray a.tmps) = false := by
    simp [Region.wanted, yielded, hj, h1]
    intro hcb; subst hcb; simp at hc
  rw [if_neg (by rw [hw]; exact Bool.false_ne_true)]
  exact hK _ (h.out _ (hr.put (by simpa [Nat.blt_eq] using hd) undef))
theorem sq_want {ops rest : List Oper} {K : (Nat → Value) → Prop} {d : Option Nat} {op : Op} {ty : TypeId} {pos : String} {after : Array Edge} {j : Nat} {b c : Bool} {dj : Nat} (hj : ((ops[j]?).bind (·.dst)) = some dj) (hv : Ev f (.tmp dj) (.bool c)) (hc : (c == b) = true) (hdj : Nat.blt dj n = true)
    (h : SQ P E n ops L K (⟨d, op, ty, pos, after, none⟩ :: rest) f) : SQ P E n ops L K (⟨d, op, ty, pos, after, some (j, b)⟩ :: rest) f := .mk fun a hr => by
  have h1 : a.tmps[dj]? = some (.bool c) := by
    have h2 := hr.get dj; have h3 := hv.eq; simp only [evO] at h3; rw [h3] at h2
    have h4 : dj < a.tmps.size := by rw [hr.size]; simpa [Nat.blt_eq] using hdj
    simp [h4] at h2 ⊢; exact h2
  have hcb : c = b := by simpa using hc
  have hw : Region.wanted (⟨d, op, ty, pos, after, some (j, b)⟩ : Oper) (yielded ops.toArray a.tmps) = true := by
    simp [Region.wanted, yielded, hj, h1, hcb]
  have := h.out a hr
  unfold wpQuiet at this ⊢
  rw [if_pos (by simp [Region.wanted])] at this
  rw [if_pos hw]
  exact this
/-- A region that draws, all of it quiet. -/
theorem sc_quiet {id : Nat} {ops : List Oper} (hm : P.follows .mixedOrders = true) (hB : Region.lexB .any ops.toArray = true) (h : SQ P E n ops L (fun f' => Q .normal f' L) ops f) : SC P E n (.region id ops.toArray true) Q f L := .mk fun a w hr hh => by
  refine wp_region_quiet (C := fun w => HP E w L) hm hB hh.drew ?_
  have key : ∀ (l : List Oper) (a : Act), wpQuiet P ops.toArray (fun w => HP E w L) (fun a' => ∃ f', Rep n f' a' ∧ Q .normal f' L) l a → wpQuiet P ops.toArray (fun w => HP E w L) (fun a' => ∀ w', HP E w' L → up E n Q .normal a' w') l a := by
    intro l
    induction l with
    | nil => intro a ⟨f', r, q⟩ w' hw'; exact ⟨f', L, r, hw', q⟩
    | cons o l ih =>
      intro a h
      unfold wpQuiet at h ⊢
      split
      · rename_i hw; rw [if_pos hw] at h; exact Oper.quiet_mono (fun a h => ih a h) h
      · rename_i hw; rw [if_neg hw] at h; exact ih _ h
  exact key _ _ (by simpa using h.out a hr)

/-! ### calls -/
end
attribute [irreducible] sThen sBlock
end Go.Sym
