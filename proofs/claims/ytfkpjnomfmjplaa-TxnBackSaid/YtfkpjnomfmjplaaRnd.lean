/- SymRnd: loops that range over a function. The rounds' code runs in frames of their own (SM: code in a frame of a round or not, with marks among its deferred calls); the iterator's contract is Gives; a function that holds such a loop is closed by tri_marks. -/
import Derived.Test.YtfkpjnomfmjplaaMore
import Derived.RangeFuncIn
import Derived.RangeFuncLeaves
import Derived.RangeFuncNested
import Derived.OrdersIn
set_option linter.unusedVariables false
set_option linter.unusedSimpArgs false
set_option linter.unnecessarySimpa false
namespace Go.Sym
open Go
def wideR (ro : Option Nat) : Fence := { Fence.wide with round := ro }
def more (D : List Deferred) (a : Act) : Act := { a with defers := a.defers ++ D }
theorem more_nil (a : Act) : more [] a = a := by cases a; simp [more]
theorem more_eval (D : List Deferred) (a : Act) : (more D a).eval = a.eval := by funext x; cases x <;> rfl
theorem more_put (D : List Deferred) (a : Act) (d : Option Nat) (v : Value) : (more D a).put d v = more D (a.put d v) := by cases d <;> rfl
def QM (D : List Deferred) (Q : Exit → Act → World → Prop) : Exit → Act → World → Prop := fun e b w => ∃ a, b = more D a ∧ Q e a w
def isDefer (o : Oper) : Bool := match o.op with | .defer _ => true | _ => false
theorem not_defer {o : Oper} (h : isDefer o = false) : ∀ c, o.op ≠ .defer c := fun c hc => by simp [isDefer, hc] at h
section
variable {P : Program} {ro : Option Nat} {m : Nat} {D : List Deferred} {Q : Exit → Act → World → Prop}
theorem oper_in {o : Oper} (hd : isDefer o = false) (hno : ¬ LetsOut Q) {a : Act} {w : World} {K K' : Act → World → Prop} (hK : ∀ a w, K a w → K' (more D a) w) (h : o.wp P a w K Q) : o.wpIn (wideR ro) m P (more D a) w K' (QM D Q) := by
  unfold Oper.wp at h
  refine ⟨fun _ _ => trivial, ?_⟩
  rw [Oper.semAt_eq _ _ _ (not_defer hd), more_eval]
  generalize (execOp a.eval o).run P w = r at *
  cases r with
  | ok x w' =>
    cases x with
    | value v => simp only [Oper.upon, Oper.uponIn] at h ⊢; rw [more_put]; exact hK _ _ h
    | skip => simp only [Oper.upon, Oper.uponIn] at h ⊢; rw [more_put]; exact hK _ _ h
    | defer d => simp only [Oper.upon, Oper.uponIn] at h ⊢; have := hK _ _ h; rw [← more_put] at this; exact this
    | enter f args =>
      simp only [Oper.upon, Oper.uponIn] at h ⊢
      refine ⟨fun hx => by simp [wideR, Fence.wide] at hx, ?_⟩
      have h1 : CallsIn Fence.wide (m - 1) P f args w' _ := callsIn_wide.2 h
      have h2 : CallsIn (wideR ro) (m - 1) P f args w' _ := h1
      refine h2.mono fun e w'' he => ?_
      cases e with
      | returned v => simp only at he ⊢; rw [more_put]; exact hK _ _ he
      | panicked c => exact ⟨a, rfl, he⟩
      | outgrown => exact (hno he).elim
    | row row args =>
      simp only [Oper.upon, Oper.uponIn] at h ⊢
      refine ⟨fun hx => by simp [wideR, Fence.wide] at hx, ?_⟩
      intro c cs _
      obtain ⟨v, w'', hr, hs⟩ := h c cs
      exact ⟨v, w'', by show K' ((more D a).put o.dst v) w''; rw [more_put]; exact hK _ _ hr, (stepsIn_wide (P := P)).2 hs⟩
    | _ => simp only [Oper.upon] at h
  | halt x w' =>
    cases x with
    | panic v => simp only [Oper.upon, Oper.uponIn] at h ⊢; exact ⟨a, rfl, h⟩
    | _ => simp only [Oper.upon] at h
theorem wpOp_in {ops : Array Oper} (hd : ∀ (i : Nat) o, ops[i]? = some o → isDefer o = false) (hno : ¬ LetsOut Q) {i : Nat} {a : Act} {w : World} {K K' : Act → World → Prop} (hK : ∀ a w, K a w → K' (more D a) w)
    (h : wpOp P ops Q i K a w) : wpOpIn (wideR ro) m P ops (QM D Q) i K' (more D a) w := by
  unfold wpOp at h
  unfold wpOpIn
  cases ho : ops[i]? with
  | none => simp only [ho] at h; exact hK _ _ h
  | some o =>
    simp only [ho] at h
    have ht : (more D a).tmps = a.tmps := rfl
    simp only [ht]
    by_cases hw : Region.wanted o (yielded ops a.tmps) = true
    · rw [if_pos hw] at h ⊢
      rcases h with h | ⟨_, h⟩
      · exact oper_in (hd i o ho) hno hK h
      · exact (hno h).elim
    · rw [if_neg hw] at h ⊢
      exact ⟨fun _ _ => trivial, by rw [more_put]; exact hK _ _ h⟩
theorem wpOps_in {ops : Array Oper} (hd : ∀ (i : Nat) o, ops[i]? = some o → isDefer o = false) (hno : ¬ LetsOut Q) : ∀ (l : List Nat) (a : Act) (w : World), wpOps P ops Q l a w → wpOpsIn (wideR ro) m P ops (QM D Q) l (more D a) w
  | [], a, w, h => ⟨a, rfl, h⟩
  | i :: l, a, w, h => by
    rw [wpOpsIn_cons]
    rw [wpOps_cons] at h
    exact wpOp_in hd hno (fun a w h => wpOps_in hd hno l a w h) h
theorem wpAny_in {ops : Array Oper} (hd : ∀ (i : Nat) o, ops[i]? = some o → isDefer o = false) (hno : ¬ LetsOut Q) : ∀ (fuel : Nat) (listed : Array Bool) (a : Act) (w : World), wpAny P .any ops Q fuel listed a w → wpAnyIn (wideR ro) m P .any ops (QM D Q) fuel listed (more D a) w
  | 0, _, a, _, h => ⟨h.1, a, rfl, h.2⟩
  | fuel + 1, _, a, _, h => ⟨fun hr => ⟨a, rfl, h.1 hr⟩, fun i hi => wpOp_in hd hno (fun a w h => wpAny_in hd hno fuel _ a w h) (h.2 i hi)⟩
end
abbrev SPostD := List Deferred → SPost
def upD (E : Env) (n : Nat) (Q : SPostD) : Exit → Act → World → Prop := fun e b w => ∃ D a f L, b = more D a ∧ Rep n f a ∧ HP E w L ∧ Q D e f L
/-- Code in a frame of a round (ro) or not, with D among its deferred calls. -/
structure SM (P : Program) (E : Env) (n : Nat) (ro : Option Nat) (c : Code) (Q : SPostD) (D : List Deferred) (f : Nat → Value) (L : List Blk) : Prop where
  out : ∀ a w, Rep n f a → HP E w L → c.wpIn (wideR ro) 0 P (upD E n Q) (more D a) w
/-- Nothing lets out. -/
def NoOut (Q : SPost) : Prop := ∀ f L, ¬ Q .outgrown f L
theorem noOut_then {K : (Nat → Value) → List Blk → Prop} {Q : SPost} (h : NoOut Q) : NoOut (sThen K Q) := fun f L hq => h f L (by unfold sThen at hq; exact hq)
theorem noOut_block {i : Nat} {Q : SPost} (h : NoOut Q) : NoOut (sBlock i Q) := fun f L hq => h f L (by unfold sBlock at hq; exact hq)
theorem noOut_ret {P : Program} {rs : List ResultVar} {post : Value → List Blk → Prop} {R : List Blk} : NoOut (retPost P rs post R) := fun _ _ h => by rcases h.1 with h | h <;> cases h
section
variable {P : Program} {E : Env} {n : Nat} {ro : Option Nat} {Q : SPostD} {D : List Deferred} {f : Nat → Value} {L : List Blk}
theorem SM.mono {c : Code} {Q' : SPostD} (h : SM P E n ro c Q D f L) (hq : ∀ D e f L, Q D e f L → Q' D e f L) : SM P E n ro c Q' D f L :=
  .mk fun a w hr hh => wpIn_mono (h.out a w hr hh) fun _ _ _ ⟨D, a, f, L, hb, r, hp, q⟩ => ⟨D, a, f, L, hb, r, hp, hq _ _ _ _ q⟩
theorem sm_perm {c : Code} {L' : List Blk} (hp : L.Perm L') (h : SM P E n ro c Q D f L') : SM P E n ro c Q D f L := .mk fun a w hr hh => h.out a w hr (hh.perm hp)
theorem sm_seq {x y : Code} (h : SM P E n ro x (fun D' => sThen (fun f' L' => SM P E n ro y Q D' f' L') (Q D')) D f L) : SM P E n ro (.seq x y) Q D f L := .mk fun a w hr hh =>
  wpIn_seq (wpIn_mono (h.out a w hr hh) fun e b w' ⟨D', a', f', L', hb, r, hp, q⟩ => by
    subst hb
    unfold sThen at q
    cases e with
    | normal => exact q.out a' w' r hp
    | _ => exact ⟨D', a', f', L', rfl, r, hp, q⟩)
theorem sm_skip (h : Q D .normal f L) : SM P E n ro .skip Q D f L := .mk fun a w hr hh => wpIn_skip ⟨D, a, f, L, rfl, hr, hh, h⟩
theorem sm_ret (h : Q D .ret f L) : SM P E n ro .ret Q D f L := .mk fun a w hr hh => wpIn_ret ⟨D, a, f, L, rfl, hr, hh, h⟩
theorem sm_exit {id : Nat} (h : Q D (.exit id) f L) : SM P E n ro (.exit id) Q D f L := .mk fun a w hr hh => wpIn_exit ⟨D, a, f, L, rfl, hr, hh, h⟩
theorem sm_cond {c : Operand} {x y : Code} {t : Bool} (hc : Ev f c (.bool t)) (ht : t = true → SM P E n ro x Q D f L) (hf : t = false → SM P E n ro y Q D f L) : SM P E n ro (.cond c x y) Q D f L := .mk fun a w hr hh =>
  wpIn_cond_split (t := t) (by rw [more_eval, hr.eval]; exact hc.eq) (fun h => (ht h).out a w hr hh) (fun h => (hf h).out a w hr hh)
theorem sm_cond_true {c : Operand} {x y : Code} (hc : Ev f c (.bool true)) (h : SM P E n ro x Q D f L) : SM P E n ro (.cond c x y) Q D f L := sm_cond hc (fun _ => h) (fun h => by cases h)
theorem sm_cond_false {c : Operand} {x y : Code} (hc : Ev f c (.bool false)) (h : SM P E n ro y Q D f L) : SM P E n ro (.cond c x y) Q D f L := sm_cond hc (fun h => by cases h) (fun _ => h)
theorem sm_block {id : Nat} {c : Code} (h : SM P E n ro c (fun D' => sBlock id (Q D')) D f L) : SM P E n ro (.block id c) Q D f L := .mk fun a w hr hh =>
  wpIn_block (wpIn_mono (h.out a w hr hh) fun e b w' ⟨D', a', f', L', hb, r, hp, q⟩ => by
    unfold sBlock at q
    cases e with
    | exit id' =>
      by_cases hid : id' = id
      · subst hid; simp only [if_true] at q; simp only [Exit.inBlock, if_true]; exact ⟨D', a', f', L', hb, r, hp, q⟩
      · simp only [hid, if_false] at q; simp only [Exit.inBlock, hid, if_false]; exact ⟨D', a', f', L', hb, r, hp, q⟩
    | _ => exact ⟨D', a', f', L', hb, r, hp, q⟩)
theorem no_lets {Q : SPost} (h : NoOut Q) : ¬ LetsOut (up E n Q) := fun ⟨_, _, f, L, _, _, q⟩ => h f L q
theorem qm_up {Q' : SPost} (hq : ∀ e f L, Q' e f L → Q D e f L) : ∀ e b w, QM D (up E n Q') e b w → upD E n Q e b w := fun e _ _ ⟨a, hb, f, L, r, hp, q⟩ => ⟨D, a, f, L, hb, r, hp, hq _ _ _ q⟩
theorem defs_of {ops : List Oper} (h : ops.all (fun o => !isDefer o) = true) : ∀ (i : Nat) o, ops.toArray[i]? = some o → isDefer o = false := fun i o ho => by
  have : o ∈ ops := by simpa using List.mem_of_getElem? (by simpa using ho)
  simpa using List.all_eq_true.1 h o this
theorem sm_region {id : Nat} {ops : List Oper} (hd : ops.all (fun o => !isDefer o) = true) (hno : NoOut (Q D)) (h : SO P E n ops (Q D) ops f L) : SM P E n ro (.region id ops.toArray false) Q D f L := .mk fun a w hr hh => by
  refine wpIn_mono (wpIn_region (wpOps_in (defs_of hd) (no_lets (E := E) (n := n) hno) (List.range ops.toArray.size) a w ?_)) (qm_up fun _ _ _ h => h)
  · have := h.out a w hr hh
    rw [List.range_eq_range', ← Array.length_toList, wpOps_eq_wpList ops.toArray.toList 0 (by simp)]
    simpa using this
/-- A region that draws, all of it quiet. -/
theorem sm_quiet {id : Nat} {ops : List Oper} (hm : P.follows .mixedOrders = true) (hB : Region.lexB .any ops.toArray = true) (hd : ops.all (fun o => !isDefer o) = true) (h : SQ P E n ops L (fun f' => Q D .normal f' L) ops f) : SM P E n ro (.region id ops.toArray true) Q D f L := .mk fun a w hr hh => by
  let Q1 : Exit → Act → World → Prop := fun e a w => e = .normal ∧ ∃ f', Rep n f' a ∧ HP E w L ∧ Q D .normal f' L
  have hno : ¬ LetsOut Q1 := fun ⟨_, _, h, _⟩ => by cases h
  simp only [Region.lexB, Bool.and_eq_true] at hB
  have hC : HP E { w with drawn := w.drawn + 1 } L := hh.drew
  have key : ∀ (l : List Oper) (a : Act), wpQuiet P ops.toArray (fun w => HP E w L) (fun a' => ∃ f', Rep n f' a' ∧ Q D .normal f' L) l a → wpQuiet P ops.toArray (fun w => HP E w L) (fun a' => ∀ w', HP E w' L → Q1 .normal a' w') l a := by
    intro l
    induction l with
    | nil => intro a ⟨f', r, q⟩ w' hw'; exact ⟨rfl, f', r, hw', q⟩
    | cons o l ih =>
      intro a h
      unfold wpQuiet at h ⊢
      split
      · rename_i hw; rw [if_pos hw] at h; exact Oper.quiet_mono (fun a h => ih a h) h
      · rename_i hw; rw [if_neg hw] at h; exact ih _ h
  have h1 := wpAnyQ_lex (C := fun w => HP E w L) (md := .any) hB.1 ops.toArray.toList 0 (Array.replicate ops.toArray.size false) a (by simp) (by simpa using hB.2) (by simpa using key _ _ (h.out a hr))
  have h2 := wpAny_of_quiet (Q := fun a' => ∀ w', HP E w' L → Q1 .normal a' w') (Q' := Q1) (fun _ w' hw' h => h w' hw') _ _ _ { w with drawn := w.drawn + 1 } hC h1
  refine wpIn_mono (wpIn_region_any hm (wpAny_in (defs_of hd) hno _ _ a _ (by simpa using h2))) ?_
  rintro e b w' ⟨a', hb, he, f', r, hp, q⟩
  subst he
  exact ⟨D, a', f', L, hb, r, hp, q⟩
/-- A region that draws: the first m operations are quiet; the others stand in a fixed order. -/
theorem sm_tail {id : Nat} {ops hd tl : List Oper} (m : Nat) (hm : P.follows .mixedOrders = true) (hB : Region.lexTailB .any ops.toArray m = true) (h1 : ops.take m = hd) (h2 : ops.drop m = tl) (hdf : ops.all (fun o => !isDefer o) = true) (hno : NoOut (Q D))
    (h : SQ P E n ops L (fun f' => SO P E n ops (Q D) tl f' L) hd f) : SM P E n ro (.region id ops.toArray true) Q D f L := .mk fun a w hr hh => by
  have key : ∀ (l : List Oper) (a : Act), wpQuiet P ops.toArray (fun w => HP E w L) (fun a' => ∃ f', Rep n f' a' ∧ SO P E n ops (Q D) tl f' L) l a → wpQuiet P ops.toArray (fun w => HP E w L) (fun a' => ∀ w', HP E w' L → wpList P ops.toArray (up E n (Q D)) tl a' w') l a := by
    intro l
    induction l with
    | nil => intro a ⟨f', r, q⟩ w' hw'; exact q.out _ _ r hw'
    | cons o l ih =>
      intro a h
      unfold wpQuiet at h ⊢
      split
      · rename_i hw; rw [if_pos hw] at h; exact Oper.quiet_mono (fun a h => ih a h) h
      · rename_i hw; rw [if_neg hw] at h; exact ih _ h
  have hk := key _ _ (h.out a hr)
  rw [← h1, ← h2] at hk
  simp only [Region.lexTailB, Bool.and_eq_true, decide_eq_true_eq] at hB
  obtain ⟨⟨⟨⟨hsel, hn⟩, hs⟩, hc⟩, hlex⟩ := hB
  have hn' : m < ops.length := by simpa using hn
  have htl : (ops.take m).length = m := by simp; omega
  have hdl : (ops.drop m).length = ops.toArray.size - m := by simp
  have inv0 : HeadInv .any ops.toArray m (Array.replicate ops.toArray.size false) :=
    ⟨by simp, fun j oj _ hl => (by rw [getD_replicate_false] at hl; cases hl), fun t _ ht => getD_in (by simpa using ht) (getD_replicate_false _ _)⟩
  have H := wpAnyLQ_lex (C := fun w => HP E w L) (md := .any) (g := ops.toArray.size - m) hsel hs hc hn (ops.take m) 0 _ a (fun j hj => by
    have hj' : j < m := by rw [htl] at hj; exact hj
    simp [hj']) (by simpa using htl) inv0 (by rw [htl]; exact hlex) hk
  have := wpAny_of_headQ (C := fun w => HP E w L) (Q' := up E n (Q D)) (g := ops.toArray.size - m) (fun listed a' w' hw' hL => by
    have := wpAny_of_seq (md := .any) (Q' := up E n (Q D)) (ops.drop m) m listed a' w' (fun j => by simp [List.getElem?_drop]) (by rw [hdl]; exact hL.1) (hL.2 w' hw')
    rwa [hdl] at this) _ _ _ { w with drawn := w.drawn + 1 } hh.drew H
  rw [htl, show m + (ops.toArray.size - m) = ops.toArray.size by omega] at this
  exact wpIn_mono (wpIn_region_any hm (wpAny_in (defs_of hdf) (no_lets (E := E) (n := n) hno) _ _ a _ this)) (qm_up fun _ _ _ h => h)
/-! ### yield -/
def YieldW (P : Program) (l : Nat) (x : Value) (w : World) (R : Ending → World → Prop) : Prop :=
  ∃ fn tmps assign body, (Instr.yield l #[x]).run P w = .ok (.round l fn tmps assign body) w ∧ RoundIn Fence.wide 0 P l fn tmps assign body w R
/-- The iterator gi gives xs, one by one (or stops when it is told to), whatever the rounds do: the rounds keep what it needs. -/
structure Gives (P : Program) (gi : FuncId) (cap : List Value) (need : List Blk → Prop) (xs : List Value) : Prop where
  out : ∀ (E : Env) (l : Nat) (J : Nat → List Blk → Prop) (Jx : List Blk → Prop), (∀ i L, J i L → need L) →
    (∀ i x w L, xs[i]? = some x → J i L → HP E w L → YieldW P l x w fun e w' => (e = .returned (.bool true) ∧ ∃ L', J (i + 1) L' ∧ HP E w' L') ∨ (e = .returned (.bool false) ∧ ∃ L', Jx L' ∧ HP E w' L')) →
    ∀ w L, J 0 L → HP E w L → Calls P gi (#[.func (.yield l) #[] #[]] ++ cap.toArray) w fun e w' => (∃ v, e = .returned v) ∧ ∃ L', (J xs.length L' ∨ Jx L') ∧ HP E w' L'
/-- A region in which yield is called. -/
structure SY (P : Program) (E : Env) (n : Nat) (ops : List Oper) (Q : SPost) (rest : List Oper) (f : Nat → Value) (L : List Blk) : Prop where
  out : ∀ a w, Rep n f a → HP E w L → wpListIn Fence.wide 0 P ops.toArray (up E n Q) rest a w
theorem sc_region_y {id : Nat} {ops : List Oper} {Q : SPost} (h : SY P E n ops Q ops f L) : SC P E n (.region id ops.toArray false) Q f L := .mk fun a w hr hh =>
  wpIn_wide (n := 0).1 (wpIn_region_lit (h.out a w hr hh))
theorem sy_ex {ops rest : List Oper} {Q : SPost} {d : Nat} {op : Op} {ty : TypeId} {pos : String} {after : Array Edge} {v : Value} (hx : Ex P E f L ⟨some d, op, ty, pos, after, none⟩ v) (hd : Nat.blt d n = true)
    (h : SY P E n ops Q rest (upd f d v) L) : SY P E n ops Q (⟨some d, op, ty, pos, after, none⟩ :: rest) f L := .mk fun a w hr hh => by
  unfold wpListIn
  rw [if_pos (by simp [Region.wanted])]
  refine ⟨fun _ _ => trivial, ?_⟩
  have := hx.out w hh
  rw [← hr.eval] at this
  have h1 : (Oper.semAt Fence.wide.round a.eval ⟨some d, op, ty, pos, after, none⟩) = execOp a.eval ⟨some d, op, ty, pos, after, none⟩ := rfl
  rw [h1, this]
  exact h.out _ _ (hr.put (by simpa [Nat.blt_eq] using hd) v) hh
theorem sy_want {ops rest : List Oper} {Q : SPost} {d : Option Nat} {op : Op} {ty : TypeId} {pos : String} {after : Array Edge} {j : Nat} {b c : Bool} {dj : Nat} (hj : ((ops[j]?).bind (·.dst)) = some dj) (hv : Ev f (.tmp dj) (.bool c)) (hc : (c == b) = true) (hdj : Nat.blt dj n = true)
    (h : SY P E n ops Q (⟨d, op, ty, pos, after, none⟩ :: rest) f L) : SY P E n ops Q (⟨d, op, ty, pos, after, some (j, b)⟩ :: rest) f L := .mk fun a w hr hh => by
  have h1 : a.tmps[dj]? = some (.bool c) := by
    have h2 := hr.get dj; have h3 := hv.eq; simp only [evO] at h3; rw [h3] at h2
    have h4 : dj < a.tmps.size := by rw [hr.size]; simpa [Nat.blt_eq] using hdj
    simp [h4] at h2 ⊢; exact h2
  have hcb : c = b := by simpa using hc
  have hw : Region.wanted (⟨d, op, ty, pos, after, some (j, b)⟩ : Oper) (yielded ops.toArray a.tmps) = true := by
    simp [Region.wanted, yielded, hj, h1, hcb]
  have := h.out a w hr hh
  unfold wpListIn at this ⊢
  rw [if_pos (by simp [Region.wanted])] at this
  rw [if_pos hw]
  exact this
/-- behind the call, all is plain again -/
theorem sy_so {ops rest : List Oper} {Q : SPost} (hd : rest.all (fun o => !isDefer o) = true) (hno : NoOut Q) (h : SO P E n ops Q rest f L) : SY P E n ops Q rest f L := .mk fun a w hr hh => by
  have key : ∀ (l : List Oper) (a : Act) (w : World), l.all (fun o => !isDefer o) = true → wpList P ops.toArray (up E n Q) l a w → wpListIn Fence.wide 0 P ops.toArray (up E n Q) l a w := by
    intro l
    induction l with
    | nil => intro a w _ h; exact h
    | cons o l ih =>
      intro a w hd h
      simp only [List.all_cons, Bool.and_eq_true, Bool.not_eq_true'] at hd
      unfold wpListIn
      unfold wpList at h
      by_cases hw : Region.wanted o (yielded ops.toArray a.tmps) = true
      · rw [if_pos hw] at h ⊢
        rcases h with h | ⟨_, h⟩
        · have h2 := oper_in (ro := none) (m := 0) (D := []) hd.1 (no_lets hno) (K' := wpListIn Fence.wide 0 P ops.toArray (up E n Q) l) (fun a w h => by rw [more_nil]; exact ih a w hd.2 h) h
          rw [more_nil] at h2
          have h3 : QM [] (up E n Q) = up E n Q := by
            funext e b w
            exact propext ⟨fun ⟨a, hb, q⟩ => by rw [more_nil] at hb; subst hb; exact q, fun q => ⟨b, (more_nil b).symm, q⟩⟩
          rw [h3] at h2
          exact h2
        · exact (no_lets hno h).elim
      · rw [if_neg hw] at h ⊢
        exact ⟨fun _ _ => trivial, ih _ _ hd.2 h⟩
  exact key rest a w hd (h.out a w hr hh)
theorem sy_yield {ops rest : List Oper} {Q : SPost} {d : Nat} {ty : TypeId} {pos : String} {after : Array Edge} {x y : Operand} {l : Nat} {v : Value} {tys : Array TypeId} (hx : Ev f x (.func (.yield l) #[] #[])) (hy : Ev f y v) (hd : Nat.blt d n = true)
    (hY : ∀ w, HP E w L → YieldW P l v w fun e w' => ∃ b L', e = .returned (.bool b) ∧ HP E w' L' ∧ SY P E n ops Q rest (upd f d (.bool b)) L') :
    SY P E n ops Q (⟨some d, .call ⟨.value x, #[y], tys⟩, ty, pos, after, none⟩ :: rest) f L := .mk fun a w hr hh => by
  unfold wpListIn
  rw [if_pos (by simp [Region.wanted])]
  refine ⟨fun _ _ => trivial, ?_⟩
  obtain ⟨fn, tmps, assign, body, hrun, hround⟩ := hY w hh
  have h1 : (Oper.semAt Fence.wide.round a.eval ⟨some d, .call ⟨.value x, #[y], tys⟩, ty, pos, after, none⟩).run P w = .ok (.round l fn tmps assign body) w := by
    rw [Oper.semAt_eq _ _ _ (by simp), hr.eval]
    have := hx.eq
    have hy' := hy.eq
    simp [execOp, resolve, this, hy', Deferred.ofValue, invoke, hrun]
  rw [h1]
  refine ⟨fun hx => by simp [Fence.wide] at hx, hround.mono fun e w' ⟨b, L', he, hp, h⟩ => ?_⟩
  subst he
  exact h.out _ _ (hr.put (by simpa [Nat.blt_eq] using hd) _) hp
end
theorem HP.putObj {E : Env} {w : World} {L L' : List Blk} {b : Nat} {o o' : Obj} (h : HP E w L) (hT : Turn L b o o' L') : HP E (w.putObj b o') L' :=
  h.turn hT rfl (World.putObj_heap_same (h.lt hT.mem)) (fun _ hk _ => World.putObj_heap_other hk)
/-- A round: the invariant carried on, or left by 'ret' or an exit. -/
def rndPost (I : Nat → List Blk → Prop) (Ix : Exit → List Blk → Prop) (i : Nat) (R : List Blk) : SPostD := fun _ e _ L' => ∃ Li G, L'.Perm (Li ++ R ++ G) ∧ match e with
  | .normal => I (i + 1) Li
  | .ret => Ix .ret Li
  | .exit k => Ix (.exit k) Li
  | _ => False
theorem noOut_rnd {I : Nat → List Blk → Prop} {Ix : Exit → List Blk → Prop} {i : Nat} {R : List Blk} {D : List Deferred} : NoOut (rndPost I Ix i R D) := fun _ _ ⟨_, _, _, h⟩ => h
abbrev mark (k : Nat) : Deferred := { target := .collected k, args := #[] }
abbrev markB (k : Nat) : Blk := (k, .deferred (some []))
section
variable {P : Program} {E : Env} {n : Nat} {Q : SPostD} {f : Nat → Value} {L : List Blk}
theorem turn_tail {A : List Blk} {b : Nat} {o o' : Obj} {B : List Blk} : Turn (A ++ (b, o) :: B) b o o' (A ++ (b, o') :: B) := by
  induction A with
  | nil => exact .here
  | cons p A ih => exact .there ih
theorem sm_rangeFunc {g : Operand} {p : Tmp} {assign body : Code} {gi : FuncId} {cap : List Value} {need : List Blk → Prop} {xs : List Value} (hg : Ev f g (.func (.func gi) #[] cap.toArray)) (he : Enters P gi) (hG : Gives P gi cap need xs) (hpn : Nat.blt p n = true)
    (I : Nat → List Blk → Prop) (Ix : Exit → List Blk → Prop) (af : Value → Nat → Value) (hneed : ∀ i Li R, I i Li → need (Li ++ R)) (h0 : I 0 L)
    (hassign : ∀ lp x L', SM P E n (some lp) assign (fun D e f' L'' => e = .normal ∧ D = [] ∧ f' = af x ∧ L'' = L') [] (upd f p x) L')
    (hbody : ∀ lp i x Li R, xs[i]? = some x → I i Li → SM P E n (some lp) body (rndPost I Ix i R) [] (af x) (Li ++ R))
    (hdone : ∀ k Ld, I xs.length Ld → Q [mark k] .normal f (markB k :: Ld))
    (hret : ∀ k Ld, Ix .ret Ld → Q [mark k] .ret f (markB k :: Ld)) (hexit : ∀ k id Ld, Ix (.exit id) Ld → Q [mark k] (.exit id) f (markB k :: Ld)) :
    SM P E n none (.rangeFunc g #[p] assign body) Q [] f L := .mk fun a w hr hh => by
  rw [more_nil]
  refine wpIn_rangeFunc (F := wideR none) ?_
  intro fn _
  have hp' : p < n := by simpa [Nat.blt_eq] using hpn
  obtain ⟨rec, hrec⟩ : ∃ rec : LoopState → Option Code → Loop, rec = fun st pe => { state := st, pending := pe, fn, tmps := a.tmps, params := #[p], assign, body, defers := w.heap.size } := ⟨_, rfl⟩
  obtain ⟨l, hl⟩ : ∃ l, l = w.heap.size + 1 := ⟨_, rfl⟩
  obtain ⟨k, hk⟩ : ∃ k, k = w.heap.size := ⟨_, rfl⟩
  obtain ⟨W1, hW1⟩ : ∃ W1, W1 = (w.alloc (.deferred (some []))).alloc (.loop (rec .ready none)) := ⟨_, rfl⟩
  have hgv : a.eval g = .func (.func gi) #[] cap.toArray := by rw [hr.eval]; exact hg.eq
  have hH1 : HP E W1 (L ++ [(l, .loop (rec .ready none)), markB k]) := by
    have h1 := (hh.alloc (.deferred (some []))).alloc (.loop (rec .ready none))
    rw [World.size_alloc, ← hl, ← hk, ← hW1] at h1
    exact h1.perm (List.perm_append_comm (l₁ := [(l, .loop (rec .ready none)), markB k]))
  have hroom : (a.eval g = a.eval g) := rfl
  refine ⟨l, [mark k], W1, { target := .fn (.func gi) cap.toArray, args := #[.func (.yield l) #[] #[]] }, W1, gi, #[.func (.yield l) #[] #[]] ++ cap.toArray, W1, ?_, ?_, fun _ _ => trivial, ?_, fun hx => by simp [wideR, Fence.wide] at hx, ?_⟩
  · have h1 := run_enterLoop_outer (P := P) (w := w) fn a.tmps #[p] assign body
    rw [hW1, hrec, hl, hk]
    exact h1
  · simp only [resolve, hgv]
    simp [go_sem]
  · simp [invoke, go_sem, he.out]
  · have hc := hG.out E l (fun i L' => ∃ Li, I i Li ∧ L' = Li ++ [(l, .loop (rec .ready none)), markB k])
      (fun L' => ∃ e c Li, Ix e Li ∧ ((e = .ret ∧ c = .ret) ∨ ∃ id, e = .exit id ∧ c = .exit id) ∧ L' = Li ++ [(l, .loop (rec .done (some c))), markB k])
      (fun i L' ⟨Li, hi, hL⟩ => by subst hL; exact hneed i Li _ hi) ?_ W1 _ ⟨L, h0, rfl⟩ hH1
    · have hc1 : CallsIn (wideR none) (0 - 1) P gi _ W1 _ := callsIn_wide.2 hc
      refine hc1.mono ?_
      rintro e w3 ⟨⟨v, rfl⟩, L', hJ, hp3⟩
      have fin : ∀ (st : LoopState) (pe : Option Code) (Ld : List Blk), st ≠ .busy → HP E w3 (Ld ++ [(l, .loop (rec st pe)), markB k]) →
          (Instr.endLoop l).run P w3 = .ok pe (w3.putObj l (.loop { rec st pe with state := .exhausted })) ∧ HP E (w3.putObj l (.loop { rec st pe with state := .exhausted })) (markB k :: Ld) := fun st pe Ld hst hp4 => by
        have hg4 : w3.heap[l]? = some (.loop (rec st pe)) := hp4.get (by simp)
        have h5 := run_endLoop (P := P) hg4 (by rw [hrec]; exact hst)
        refine ⟨by rw [h5]; rw [hrec], ?_⟩
        have h6 := hp4.putObj (o' := .loop { rec st pe with state := .exhausted }) turn_tail
        have h7 : (Ld ++ [(l, Obj.loop { rec st pe with state := .exhausted }), markB k]).Perm ([markB k] ++ Ld ++ [(l, Obj.loop { rec st pe with state := .exhausted })]) := by
          have e1 : Ld ++ [(l, Obj.loop { rec st pe with state := .exhausted }), markB k] = (Ld ++ [(l, Obj.loop { rec st pe with state := .exhausted })]) ++ [markB k] := by simp
          rw [e1, List.append_assoc [markB k]]
          exact List.perm_append_comm
        exact (h6.perm h7).left
      have ha : ({ a with defers := [mark k] ++ a.defers } : Act) = more [mark k] a := by unfold more; rw [hr.defers]; rfl
      rcases hJ with ⟨Ld, hi, rfl⟩ | ⟨e, c, Ld, hi, hec, rfl⟩
      · obtain ⟨h1, h2⟩ := fin .ready none Ld (by simp) hp3
        exact ⟨none, _, h1, by rw [ha]; exact ⟨[mark k], a, f, _, rfl, hr, h2, hdone k Ld hi⟩⟩
      · obtain ⟨h1, h2⟩ := fin .done (some c) Ld (by simp) hp3
        refine ⟨some c, _, h1, ?_⟩
        rw [ha]
        rcases hec with ⟨rfl, rfl⟩ | ⟨id, rfl, rfl⟩
        · exact wpIn_ret ⟨[mark k], a, f, _, rfl, hr, h2, hret k Ld hi⟩
        · exact wpIn_exit ⟨[mark k], a, f, _, rfl, hr, h2, hexit k id Ld hi⟩
    · rintro i x W L' hx ⟨Li, hi, rfl⟩ hp1
      have hlr : W.heap[l]? = some (.loop (rec .ready none)) := hp1.get (by simp)
      have hy := run_yield (P := P) (args := #[x]) hlr (by rw [hrec]; rfl)
      refine ⟨_, _, _, _, hy, roundIn_of_wpIn (F := Fence.wide) trivial ?_⟩
      have h1 := (hassign l x (Li ++ [(l, .loop (rec .ready none)), markB k])).out (a.put (some p) x) W (hr.put hp' x) hp1
      rw [more_nil] at h1
      have e1 : ({ tmps := ((rec .ready none).params.zip #[x]).foldl (fun tmps (t, a) => tmps.setIfInBounds t a) (rec .ready none).tmps, defers := [] } : Act) = a.put (some p) x := by
        rw [hrec]; simp [Act.put, hr.defers]
      have e2 : (rec .ready none).assign = assign := by rw [hrec]
      have e3 : (rec .ready none).body = body := by rw [hrec]
      rw [e1, e2, e3]
      refine wpIn_mono (F := wideR (some l)) h1 ?_
      rintro e b w2 ⟨D, a1, f1, L1, rfl, r1, hp2, rfl, rfl, rfl, rfl⟩
      have hl2 : w2.heap[l]? = some (.loop (rec .ready none)) := hp2.get (by simp)
      refine ⟨_, run_beginRound hl2 (by rw [hrec]), ?_⟩
      have hp3 := hp2.putObj (o' := .loop { rec .ready none with state := .busy }) turn_tail
      have h2 := (hbody l i x Li _ hx hi).out a1 _ r1 hp3
      refine wpIn_mono (F := wideR (some l)) h2 ?_
      rintro e b w3 ⟨D, a3, f3, L3, rfl, r3, hp4, Li', G, hperm, hq⟩
      have hp5 := (hp4.perm hperm).left
      have hl3 : w3.heap[l]? = some (.loop { rec .ready none with state := .busy }) := hp5.get (by simp)
      have fin : ∀ jump : Option Code, (Instr.endRound l jump).run P w3 = .ok (.bool jump.isNone) (w3.putObj l (.loop (rec (if jump.isNone then .ready else .done) jump))) ∧ HP E (w3.putObj l (.loop (rec (if jump.isNone then .ready else .done) jump))) (Li' ++ [(l, .loop (rec (if jump.isNone then .ready else .done) jump)), markB k]) := fun jump => by
        refine ⟨?_, hp5.putObj turn_tail⟩
        have := run_endRound (P := P) jump hl3
        rw [hrec] at this ⊢
        exact this
      cases e with
      | normal => exact ⟨_, _, (fin none).1, .inl ⟨rfl, _, ⟨Li', hq, rfl⟩, (fin none).2⟩⟩
      | ret => exact ⟨_, _, (fin (some .ret)).1, .inr ⟨rfl, _, ⟨.ret, .ret, Li', hq, .inl ⟨rfl, rfl⟩, rfl⟩, (fin (some .ret)).2⟩⟩
      | exit id => exact ⟨_, _, (fin (some (.exit id))).1, .inr ⟨rfl, _, ⟨.exit id, .exit id, Li', hq, .inr ⟨id, rfl, rfl⟩, rfl⟩, (fin (some (.exit id))).2⟩⟩
      | _ => exact hq.elim
/-- The end of a function that may hold a loop over a function. -/
def retM (P : Program) (rs : List ResultVar) (post : Value → List Blk → Prop) (R : List Blk) : SPostD := fun D e f L => match D with
  | [] => retPost P rs post R e f L
  | [d] => ∃ k L2, d = mark k ∧ L.Perm (markB k :: L2) ∧ retPost P rs post R e f L2
  | _ => False
theorem retM_nil {rs : List ResultVar} {post : Value → List Blk → Prop} {R : List Blk} {e : Exit} (h : retPost P rs post R e f L) : retM P rs post R [] e f L := h
theorem retM_mark {rs : List ResultVar} {post : Value → List Blk → Prop} {R L2 : List Blk} {e : Exit} {k : Nat} (hp : Pick L (markB k) L2) (h : retPost P rs post R e f L2) : retM P rs post R [mark k] e f L := ⟨k, L2, rfl, hp.perm, h⟩
theorem noOut_retM {rs : List ResultVar} {post : Value → List Blk → Prop} {R : List Blk} {D : List Deferred} : NoOut (retM P rs post R D) := fun f L h => by
  unfold retM at h
  split at h
  · rcases h.1 with h | h <;> cases h
  · obtain ⟨_, _, _, _, h⟩ := h
    rcases h.1 with h | h <;> cases h
  · exact h
theorem tri_marks {g : FuncId} {fn : Func} {c : Code} {args : List Value} {pre : List Blk} {post : Value → List Blk → Prop} {rs : List ResultVar} {n : Nat} (hf : P.funcs[g]? = some fn) (hb : fn.body = some c) (hn : fn.ntmps = n) (ha : Nat.ble args.length n = true) (hr : fn.results = rs.toArray) (hl : Nat.ble rs.length 3 = true)
    (h : ∀ E R, SM P E n none c (retM P rs post R) [] (fr args 0) (pre ++ R)) : Tri P g args.toArray pre post := .mk fun E R w hh => by
  have ha := Nat.le_of_ble_eq_true ha
  have hl := Nat.le_of_ble_eq_true hl
  refine (callsIn_wide (n := 0)).1 (callsIn_of_wp_marks (F := Fence.wide) hf hb trivial ?_)
  have hrep : Rep n (fr args 0) { tmps := args.toArray ++ Array.replicate (fn.ntmps - args.toArray.size) undef, defers := [] } := by
    refine ⟨by simp [hn]; omega, rfl, fun t => ?_⟩
    rw [fr_eq]
    simp only [Nat.zero_le, if_true, Nat.sub_zero]
    by_cases ht : t < args.length
    · simp [Array.getElem?_append, ht]
    · simp [Array.getElem?_append, ht, Array.getElem?_replicate]
      split <;> simp
  have h1 := (h E R).out _ w hrep hh
  rw [more_nil] at h1
  refine wpIn_mono (F := Fence.wide) h1 ?_
  rintro e b w' ⟨D, a, f', L', rfl, r, hp, hq⟩
  have key : ∀ (w' : World) (L' : List Blk), HP E w' L' → retPost P rs post R e f' L' → LeavesIn Fence.wide 0 P fn a.tmps (fun e w' => ∃ v L, e = .returned v ∧ post v L ∧ HP E w' (L ++ R)) [] .returning w' := fun w' L' hp ⟨_, vs, L'', G, hres, hpost, hperm⟩ => by
    have hs := hres.spec hp r
    have hrun := run_results (P := P) (tmps := a.tmps) (w := w') hr hl hs.1 hs.2
    exact ⟨_, hrun, _, L'', rfl, hpost, (hp.perm hperm).left⟩
  have he : ∀ {L'}, retPost P rs post R e f' L' → e = .normal ∨ e = .ret := fun h => h.1
  unfold retM at hq
  split at hq
  · have h2 := key w' L' hp hq
    have hd : (more [] a).defers = [] := by rw [more_nil]; exact r.defers
    rcases he hq with rfl | rfl
    · show LeavesInM _ _ _ _ _ _ (more [] a).defers _ _; rw [hd]; exact h2
    · show LeavesInM _ _ _ _ _ _ (more [] a).defers _ _; rw [hd]; exact h2
  · rename_i d
    obtain ⟨k, L2, rfl, hperm, hq⟩ := hq
    have hp2 := hp.perm hperm
    have hk : w'.heap[k]? = some (.deferred (some [])) := hp2.get (by simp)
    have hp3 : HP E (w'.putObj k (.deferred none)) ((k, .deferred none) :: L2) := hp2.putObj .here
    have h2 := key _ L2 (hp3.sub (List.sublist_cons_self _ _)) hq
    have hd : (more [mark k] a).defers = [mark k] := by show a.defers ++ _ = _; rw [r.defers]; rfl
    have h3 : LeavesInM Fence.wide 0 P fn a.tmps (fun e w' => ∃ v L, e = .returned v ∧ post v L ∧ HP E w' (L ++ R)) [mark k] .returning w' := ⟨by simp, .inl ⟨k, _, rfl, run_takeDeferred hk, h2⟩⟩
    rcases he hq with rfl | rfl
    · show LeavesInM _ _ _ _ _ _ (more [mark k] a).defers _ _; rw [hd]; exact h3
    · show LeavesInM _ _ _ _ _ _ (more [mark k] a).defers _ _; rw [hd]; exact h3
  · exact hq.elim
/-- a call at one environment, whatever else lies there being among the blocks -/
theorem calls_intro {g : FuncId} {fn : Func} {c : Code} {args : List Value} {L : List Blk} {post : Value → List Blk → Prop} {rs : List ResultVar} {n : Nat} {w : World} (hf : P.funcs[g]? = some fn) (hb : fn.body = some c) (hn : fn.ntmps = n) (ha : Nat.ble args.length n = true) (hr : fn.results = rs.toArray) (hl : Nat.ble rs.length 3 = true)
    (h : SC P E n c (retPost P rs post []) (fr args 0) L) (hh : HP E w L) : Calls P g args.toArray w fun e w' => ∃ v L', e = .returned v ∧ post v L' ∧ HP E w' L' := by
  have ha := Nat.le_of_ble_eq_true ha
  have hl := Nat.le_of_ble_eq_true hl
  refine calls_of_wp hf hb ?_
  have hrep : Rep n (fr args 0) { tmps := args.toArray ++ Array.replicate (fn.ntmps - args.toArray.size) undef, defers := [] } := by
    refine ⟨by simp [hn]; omega, rfl, fun t => ?_⟩
    rw [fr_eq]
    simp only [Nat.zero_le, if_true, Nat.sub_zero]
    by_cases ht : t < args.length
    · simp [Array.getElem?_append, ht]
    · simp [Array.getElem?_append, ht, Array.getElem?_replicate]
      split <;> simp
  refine wp_mono (h.out _ w hrep hh) fun e a w' ⟨f', L', r, hp, ⟨he, vs, L'', G, hres, hpost, hperm⟩⟩ => ?_
  have hs := hres.spec hp r
  have hrun := run_results (P := P) (tmps := a.tmps) (w := w') hr hl hs.1 hs.2
  have hp2 := (hp.perm hperm).left
  rw [List.append_nil] at hp2
  have hfin : ∃ v L', Ending.returned (resVal vs) = .returned v ∧ post v L' ∧ HP E w' L' := ⟨_, L'', rfl, hpost, hp2⟩
  rcases he with rfl | rfl
  · exact ⟨r.defers, _, hrun, hfin⟩
  · exact ⟨r.defers, _, hrun, hfin⟩
theorem YieldW.mono {P : Program} {l : Nat} {x : Value} {w : World} {R R' : Ending → World → Prop} (h : YieldW P l x w R) (hr : ∀ e w', R e w' → R' e w') : YieldW P l x w R' := by
  obtain ⟨fn, tmps, assign, body, h1, h2⟩ := h
  exact ⟨fn, tmps, assign, body, h1, h2.mono hr⟩
/-- an iterator by its walk -/
theorem gives_intro {g : FuncId} {fn : Func} {c : Code} {cap : List Value} {need : List Blk → Prop} {xs : List Value} {n : Nat} (hf : P.funcs[g]? = some fn) (hb : fn.body = some c) (hn : fn.ntmps = n) (ha : Nat.ble (cap.length + 1) n = true) (hr : fn.results = #[])
    (h : ∀ (E : Env) (l : Nat) (J : Nat → List Blk → Prop) (Jx : List Blk → Prop), (∀ i L, J i L → need L) →
      (∀ i x w L, xs[i]? = some x → J i L → HP E w L → YieldW P l x w fun e w' => (e = .returned (.bool true) ∧ ∃ L', J (i + 1) L' ∧ HP E w' L') ∨ (e = .returned (.bool false) ∧ ∃ L', Jx L' ∧ HP E w' L')) →
      ∀ L, J 0 L → SC P E n c (retPost P [] (fun _ L' => J xs.length L' ∨ Jx L') []) (fr (.func (.yield l) #[] #[] :: cap) 0) L) : Gives P g cap need xs := .mk fun E l J Jx hJ hY w L h0 hh => by
  have h1 := calls_intro (rs := []) hf hb hn (args := .func (.yield l) #[] #[] :: cap) ha hr rfl (h E l J Jx hJ hY L h0) hh
  have e : (#[Value.func (.yield l) #[] #[]] ++ cap.toArray) = (Value.func (.yield l) #[] #[] :: cap).toArray := by simp
  rw [e]
  exact h1.mono fun e w' ⟨v, L', he, hp, hh'⟩ => ⟨⟨v, he⟩, L', hp, hh'⟩
end
end Go.Sym
