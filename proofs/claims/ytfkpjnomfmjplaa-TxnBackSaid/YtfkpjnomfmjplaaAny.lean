/- SymAny: a region that draws its order, walked in an order of our choice: quiet operations may come first, a loud one must be the only one that is ready, or all are walked. -/
import Derived.Test.YtfkpjnomfmjplaaTail
import Derived.OrdersHeld
set_option linter.unusedVariables false
set_option linter.unusedSimpArgs false
set_option linter.unnecessarySimpa false
namespace Go.Sym
open Go
def nop (Q : SPost) : SPost := fun e f L => (∀ c, e ≠ .panic c) ∧ Q e f L
section
variable {P : Program} {E : Env} {n : Nat} {Q : SPost} {f : Nat → Value} {L Ls : List Blk} {ops : List Oper}
/-- the operations not yet listed, over the blocks L of which Ls stand still -/
structure SA (P : Program) (E : Env) (n : Nat) (ops : List Oper) (Ls : List Blk) (Q : SPost) (fuel : Nat) (listed : List Bool) (f : Nat → Value) (L : List Blk) : Prop where
  out : ∀ a w, Rep n f a → HP E w L → wpAnyH P .any ops.toArray (up E n (nop Q)) (fun w => HP E w Ls) fuel listed.toArray a w
/-- operation o is quiet over Ls and yields v -/
structure QO (P : Program) (E : Env) (n : Nat) (ops : List Oper) (Ls : List Blk) (f : Nat → Value) (o : Oper) (v : Value) : Prop where
  out : ∀ a, Rep n f a → YieldsIf P ops.toArray (fun w => HP E w Ls) o v a
theorem qo_ex {d : Option Nat} {op : Op} {ty : TypeId} {pos : String} {after : Array Edge} {v : Value} (hx : Ex P E f Ls ⟨d, op, ty, pos, after, none⟩ v) : QO P E n ops Ls f ⟨d, op, ty, pos, after, none⟩ v := .mk fun a hr =>
  .inl ⟨by simp [Region.wanted], fun w hw => by rw [hr.eval, hx.out w hw]⟩
theorem set_toArray (l : List Bool) (i : Nat) : l.toArray.setIfInBounds i true = (l.set i true).toArray := by simp
theorem sa_take {fuel i d : Nat} {listed l' : List Bool} {op : Op} {ty : TypeId} {pos : String} {after : Array Edge} {g : Option (Nat × Bool)} {v : Value} {R : List Blk} (hs : Region.noSelect ops.toArray = true) (hi : ops[i]? = some ⟨some d, op, ty, pos, after, g⟩)
    (hr : (Region.ready .any ops.toArray listed.toArray).contains i = true) (hf : Region.free .any ops.toArray listed.toArray i = true) (hl : listed.set i true = l') (hd : Nat.blt d n = true)
    (hk : Sel L Ls R) (hq : QO P E n ops Ls f ⟨some d, op, ty, pos, after, g⟩ v) (h : SA P E n ops Ls Q fuel l' (upd f d v) L) : SA P E n ops Ls Q (fuel + 1) listed f L := .mk fun a w hrep hh => by
  refine wpAnyH_take (i := i) (v := v) (by simpa using hi) hs hf hr ?_ (hq.out a hrep) ((hh.perm hk.perm).left) ?_
  · rintro c a' w' ⟨f', L', _, _, h, _⟩; exact absurd rfl (h c)
  · rw [set_toArray, hl]
    exact h.out _ _ (hrep.put (by simpa [Nat.blt_eq] using hd) v) hh
/-- what stands behind one operation -/
def saK (P : Program) (E : Env) (n : Nat) (ops : List Oper) (Ls : List Blk) (Q : SPost) (fuel : Nat) (l' : List Bool) : SPost := fun e f L => match e with
  | .normal => (∃ R, Sel L Ls R) ∧ SA P E n ops Ls Q fuel l' f L
  | _ => False
theorem sa_op {fuel i : Nat} {l' : List Bool} {o : Oper} (hi : ops[i]? = some o) (h : SO P E n ops (saK P E n ops Ls Q fuel l') [o] f L) {a : Act} {w : World} (hrep : Rep n f a) (hh : HP E w L) :
    wpOp P ops.toArray (up E n (nop Q)) i (fun a' w' => HP E w' Ls ∧ wpAnyH P .any ops.toArray (up E n (nop Q)) (fun w => HP E w Ls) fuel l'.toArray a' w') a w := by
  have h1 := h.out a w hrep hh
  have hin : ∀ a' w', up E n (saK P E n ops Ls Q fuel l') .normal a' w' → HP E w' Ls ∧ wpAnyH P .any ops.toArray (up E n (nop Q)) (fun w => HP E w Ls) fuel l'.toArray a' w' := by
    rintro a' w' ⟨f', L', hr', hp', ⟨⟨R, hR⟩, hS⟩⟩
    exact ⟨(hp'.perm hR.perm).left, hS.out _ _ hr' hp'⟩
  unfold wpOp
  simp only [List.getElem?_toArray, hi]
  unfold wpList at h1
  split
  · rename_i hw
    rw [if_pos hw] at h1
    rcases h1 with h1 | h1
    · refine .inl ?_
      unfold Oper.wp at h1 ⊢
      generalize (execOp a.eval o).run P w = r at *
      cases r with
      | ok nx w' =>
        cases nx <;> simp only [Oper.upon] at h1 ⊢
        case value u => exact hin _ _ h1
        case skip => exact hin _ _ h1
        case defer d => exact hin _ _ h1
        case enter g args =>
          refine Calls.mono h1 fun e w'' he => ?_
          cases e with
          | returned u => exact hin _ _ he
          | panicked c => obtain ⟨_, _, _, _, hF⟩ := he; exact hF.elim
          | outgrown => obtain ⟨_, _, _, _, _, _, hF⟩ := he; exact hF.elim
        case row row args => exact Rows.mono h1 fun u w'' he => hin _ _ he
      | halt x w' =>
        cases x <;> simp only [Oper.upon] at h1 ⊢
        case panic u => obtain ⟨_, _, _, _, hF⟩ := h1; exact hF.elim
    · obtain ⟨h1, h2⟩ := h1
      obtain ⟨_, _, _, _, _, _, hF⟩ := h2
      exact hF.elim
  · rename_i hw
    rw [if_neg hw] at h1
    exact hin _ _ h1
theorem sa_all {fuel : Nat} {listed : List Bool} {rs : List Nat} (hr : Region.ready .any ops.toArray listed.toArray = rs) (hne : rs ≠ []) (h : ∀ i ∈ rs, ∃ o, ops[i]? = some o ∧ SO P E n ops (saK P E n ops Ls Q fuel (listed.set i true)) [o] f L) : SA P E n ops Ls Q (fuel + 1) listed f L := .mk fun a w hrep hh => by
  refine wpAnyH_all hr hne fun i hi => ?_
  obtain ⟨o, ho, hs⟩ := h i hi
  have := sa_op ho hs hrep hh
  rw [set_toArray]
  exact this
/-- one loud operation, the only one that is ready -/
theorem sa_one {fuel i : Nat} {listed l' : List Bool} {o : Oper} (hi : ops[i]? = some o) (hr : Region.ready .any ops.toArray listed.toArray = [i]) (hl : listed.set i true = l') (h : SO P E n ops (saK P E n ops Ls Q fuel l') [o] f L) : SA P E n ops Ls Q (fuel + 1) listed f L :=
  sa_all hr (by simp) fun j hj => by
    have : j = i := by simpa using hj
    subst this hl
    exact ⟨o, hi, h⟩
theorem sa_two {fuel i j : Nat} {listed l1 l2 : List Bool} {o1 o2 : Oper} (hi : ops[i]? = some o1) (hj : ops[j]? = some o2) (hr : Region.ready .any ops.toArray listed.toArray = [i, j]) (hl1 : listed.set i true = l1) (hl2 : listed.set j true = l2)
    (h1 : SO P E n ops (saK P E n ops Ls Q fuel l1) [o1] f L) (h2 : SO P E n ops (saK P E n ops Ls Q fuel l2) [o2] f L) : SA P E n ops Ls Q (fuel + 1) listed f L :=
  sa_all hr (by simp) fun k hk => by
    rcases List.mem_cons.1 hk with rfl | hk
    · subst hl1; exact ⟨o1, hi, h1⟩
    · have : k = j := by simpa using hk
      subst this hl2
      exact ⟨o2, hj, h2⟩
/-- behind a loud operation -/
theorem sa_next {fuel : Nat} {l' : List Bool} {R : List Blk} (hk : Sel L Ls R) (h : SA P E n ops Ls Q fuel l' f L) : SO P E n ops (saK P E n ops Ls Q fuel l') [] f L := so_nil ⟨⟨R, hk⟩, h⟩
theorem sa_done {fuel : Nat} {listed : List Bool} (hr : Region.ready .any ops.toArray listed.toArray = []) (h : Q .normal f L) : SA P E n ops Ls Q fuel listed f L := .mk fun a w hrep hh => wpAnyH_done hr ⟨f, L, hrep, hh, fun _ he => (by cases he), h⟩ _
theorem sa_done_then {fuel : Nat} {listed : List Bool} {K : (Nat → Value) → List Blk → Prop} {Q' : SPost} (hr : Region.ready .any ops.toArray listed.toArray = []) (h : K f L) : SA P E n ops Ls (sThen K Q') fuel listed f L := sa_done hr (nm_then h)
/-- A region that draws. 'vol': the blocks that it may turn. -/
theorem sc_any {id m : Nat} {vol : List Blk} {l0 : List Bool} (hm : P.follows .mixedOrders = true) (hs : Sel L vol Ls) (hn : ops.length = m) (hl : List.replicate m false = l0) (h : SA P E n ops Ls Q m l0 f L) : SC P E n (.region id ops.toArray true) Q f L := .mk fun a w hr hh => by
  have h1 := h.out a _ hr hh.drew
  subst hn hl
  have h2 : wpAnyH P .any ops.toArray (up E n (nop Q)) (fun w => HP E w Ls) ops.toArray.size (Array.replicate ops.toArray.size false) a { w with drawn := w.drawn + 1 } := by simpa using h1
  exact wp_mono (wp_region_held (id := id) hm h2) fun e a w hq => by
    obtain ⟨f, L, r, hp, q⟩ := hq
    exact ⟨f, L, r, hp, q.2⟩
end
end Go.Sym
