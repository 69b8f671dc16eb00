/- RcV: regions that draw their order. -/
import Derived.Test.YtomgkmoecbnddaaRcU
set_option linter.unusedVariables false
set_option linter.unusedSimpArgs false
set_option linter.unnecessarySimpa false
namespace Go.Rc
open Go Go.Sym
section
variable {P : Program} {n : Nat} {ops : Array Oper} {bf : Array Nat} {Q : Act → World → Prop}
abbrev Sl := List (Nat × Nat × Option Obj)
def wpD (P : Program) (ops : Array Oper) (j : Nat) (K : Act → World → Prop) (a : Act) (w : World) : Prop := match ops[j]? with
  | none => K a w
  | some o => stepX (OpW P) ops o a w K
theorem wpD.mono {j : Nat} {K K' : Act → World → Prop} {a : Act} {w : World} (h : wpD P ops j K a w) (hi : ∀ a w, K a w → K' a w) : wpD P ops j K' a w := by
  unfold wpD at *
  cases ho : ops[j]? with
  | none => rw [ho] at h; exact hi _ _ h
  | some o => rw [ho] at h; exact stepX.mono monoW h hi
def holds (Ss : Sl) (w : World) : Prop := ∀ s ∈ Ss, w.heap[s.2.1]? = s.2.2
def bfr (bf : Array Nat) (i j : Nat) : Bool := (bf.getD j 0).testBit i
def anyD (P : Program) (ops : Array Oper) (bf : Array Nat) (Q : Act → World → Prop) : Nat → Array Bool → Sl → Act → World → Prop
  | 0, listed, _, a, w => Region.ready .any ops listed = [] ∧ Q a w
  | fu + 1, listed, Ss, a, w => (Region.ready .any ops listed = [] → Q a w) ∧
    ∀ j ∈ Region.ready .any ops listed, wpD P ops j (fun a' w' => holds (Ss.filter fun s => !bfr bf s.1 j) w' ∧ anyD P ops bf Q fu (listed.setIfInBounds j true) (Ss.filter fun s => !bfr bf s.1 j) a' w') a w
theorem anyD.mono {Q' : Act → World → Prop} (hi : ∀ a w, Q a w → Q' a w) : ∀ (fu : Nat) (listed : Array Bool) (Ss : Sl) (a : Act) (w : World), anyD P ops bf Q fu listed Ss a w → anyD P ops bf Q' fu listed Ss a w
  | 0, _, _, _, _, h => ⟨h.1, hi _ _ h.2⟩
  | fu + 1, _, _, _, _, h => ⟨fun e => hi _ _ (h.1 e), fun j hj => (h.2 j hj).mono fun a w h => ⟨h.1, anyD.mono hi fu _ _ a w h.2⟩⟩
theorem anyD.sub : ∀ (fu : Nat) (listed : Array Bool) (Ss Ss' : Sl) (a : Act) (w : World), (∀ s ∈ Ss', s ∈ Ss) → anyD P ops bf Q fu listed Ss a w → anyD P ops bf Q fu listed Ss' a w
  | 0, _, _, _, _, _, _, h => h
  | fu + 1, _, Ss, Ss', _, _, hs, h => ⟨h.1, fun j hj => (h.2 j hj).mono fun a w h1 => by
    have hs2 : ∀ s ∈ Ss'.filter fun s => !bfr bf s.1 j, s ∈ Ss.filter fun s => !bfr bf s.1 j := fun s hm => by
      rw [List.mem_filter] at hm ⊢
      exact ⟨hs s hm.1, hm.2⟩
    exact ⟨fun s hm => h1.1 s (hs2 s hm), anyD.sub fu _ _ _ a w hs2 h1.2⟩⟩
theorem anyD_sound : ∀ (fu t : Nat) (listed : Array Bool) (Ss : Sl) (a : Act) (w : World), anyD P ops bf Q fu listed Ss a w → runL (OpW P) ops Q (Region.linearise.go .any ops fu t listed []) a w := by
  intro fu
  induction fu with
  | zero => intro t listed Ss a w h; simpa [Region.linearise.go, runL] using h.2
  | succ fu ih =>
    intro t listed Ss a w h
    obtain ⟨h₀, h₁⟩ := h
    simp only [Region.linearise.go]
    change runL (OpW P) ops Q (match (Region.ready .any ops listed)[t % (Region.ready .any ops listed).length]? with
      | some i => Region.linearise.go .any ops fu (t / (Region.ready .any ops listed).length) (listed.setIfInBounds i true) [i]
      | none => [].reverse) a w
    cases hi : (Region.ready .any ops listed)[t % (Region.ready .any ops listed).length]? with
    | none =>
      have hnil : Region.ready .any ops listed = [] := by
        cases hr : Region.ready .any ops listed with
        | nil => rfl
        | cons x xs =>
          rw [hr] at hi
          have hlt : t % (x :: xs).length < (x :: xs).length := Nat.mod_lt _ (by simp)
          simp at hi
          simp at hlt
          omega
      simpa [runL] using h₀ hnil
    | some i =>
      simp only []
      rw [linearise_go_acc, List.reverse_singleton, List.singleton_append]
      have h2 := h₁ i (List.mem_of_getElem? hi)
      unfold runL
      unfold wpD at h2
      cases ho : ops[i]? with
      | none => rw [ho] at h2; exact ih _ _ _ _ _ h2.2
      | some o => rw [ho] at h2; exact stepX.mono monoW h2 fun a w h3 => ih _ _ _ _ _ h3.2
/-! ### what comes before what -/
def closed (ops : Array Oper) (listed : Array Bool) : Prop := ∀ (m : Nat) (om : Oper), ops[m]? = some om → listed.getD m false = true → ∀ e ∈ om.after, Region.binds .any e = true → listed.getD e.on false = true
def bits (o : Oper) (acc : Array Nat) : Nat := o.after.foldl (fun s e => if Region.binds .any e then s ||| 2 ^ e.on ||| acc.getD e.on 0 else s) 0
theorem bits_spec {o : Oper} {acc : Array Nat} {i : Nat} (h : (bits o acc).testBit i = true) : ∃ e ∈ o.after, Region.binds .any e = true ∧ (e.on = i ∨ (acc.getD e.on 0).testBit i = true) := by
  unfold bits at h
  rw [← Array.foldl_toList] at h
  have key : ∀ (l : List Edge) (s : Nat), (l.foldl (fun s e => if Region.binds .any e then s ||| 2 ^ e.on ||| acc.getD e.on 0 else s) s).testBit i = true → s.testBit i = true ∨ ∃ e ∈ l, Region.binds .any e = true ∧ (e.on = i ∨ (acc.getD e.on 0).testBit i = true) := by
    intro l
    induction l with
    | nil => exact fun s h => .inl h
    | cons e l ih =>
      intro s h
      rw [List.foldl_cons] at h
      rcases ih _ h with h1 | ⟨e', h1, h2⟩
      · by_cases hb : Region.binds .any e = true
        · rw [if_pos hb, Nat.testBit_or, Nat.testBit_or, Nat.testBit_two_pow] at h1
          simp only [Bool.or_eq_true, decide_eq_true_eq] at h1
          rcases h1 with (h1 | h1) | h1
          · exact .inl h1
          · exact .inr ⟨e, by simp, hb, .inl h1⟩
          · exact .inr ⟨e, by simp, hb, .inr h1⟩
        · rw [if_neg hb] at h1
          exact .inl h1
      · exact .inr ⟨e', List.mem_cons_of_mem _ h1, h2⟩
  rcases key _ _ h with h1 | ⟨e, h1, h2⟩
  · simp at h1
  · exact ⟨e, by simpa using h1, h2⟩
/-- what an entry of 'before' tells -/
theorem before_spec {i : Nat} : ∀ (m : Nat), ((Region.before ops).getD m 0).testBit i = true → ∃ om, ops[m]? = some om ∧ ∃ e ∈ om.after, Region.binds .any e = true ∧ (e.on = i ∨ (e.on < m ∧ ((Region.before ops).getD e.on 0).testBit i = true)) := by
  have key : ∀ (l done : List Oper) (acc : Array Nat), done ++ l = ops.toList → acc.size = done.length →
      (∀ m, (acc.getD m 0).testBit i = true → ∃ om, ops[m]? = some om ∧ ∃ e ∈ om.after, Region.binds .any e = true ∧ (e.on = i ∨ (e.on < m ∧ (acc.getD e.on 0).testBit i = true))) →
      ∀ m, ((l.foldl (fun acc o => acc.push (bits o acc)) acc).getD m 0).testBit i = true → ∃ om, ops[m]? = some om ∧ ∃ e ∈ om.after, Region.binds .any e = true ∧ (e.on = i ∨ (e.on < m ∧ ((l.foldl (fun acc o => acc.push (bits o acc)) acc).getD e.on 0).testBit i = true)) := by
    intro l
    induction l with
    | nil => exact fun done acc _ _ h => h
    | cons o l ih =>
      intro done acc hdone hsize hacc
      rw [List.foldl_cons]
      refine ih (done ++ [o]) (acc.push (bits o acc)) (by simpa using hdone) (by simp [hsize]) fun m hm => ?_
      by_cases hlt : m < acc.size
      · have e1 : (acc.push (bits o acc)).getD m 0 = acc.getD m 0 := by simp [Array.getElem?_push, Nat.ne_of_lt hlt]
        rw [e1] at hm
        obtain ⟨om, h1, e, h2, h3, h4⟩ := hacc m hm
        refine ⟨om, h1, e, h2, h3, h4.imp id fun ⟨h5, h6⟩ => ⟨h5, ?_⟩⟩
        have : e.on ≠ acc.size := by omega
        simpa [Array.getElem?_push, this] using h6
      · by_cases heq : m = acc.size
        · subst heq
          have e1 : (acc.push (bits o acc)).getD acc.size 0 = bits o acc := by simp
          rw [e1] at hm
          obtain ⟨e, h2, h3, h4⟩ := bits_spec hm
          refine ⟨o, ?_, e, h2, h3, h4.imp id fun h5 => ?_⟩
          · have : ops.toList[acc.size]? = some o := by rw [← hdone, hsize]; simp
            simpa using this
          · have hlt : e.on < acc.size := by
              rcases Nat.lt_or_ge e.on acc.size with h | h
              · exact h
              · simp [Array.getElem?_eq_none h] at h5
            refine ⟨hlt, ?_⟩
            simpa [Array.getElem?_push, Nat.ne_of_lt hlt] using h5
        · have : (acc.push (bits o acc)).getD m 0 = 0 := by
            have : (acc.push (bits o acc)).size ≤ m := by simp; omega
            simp [Array.getElem?_eq_none this]
          rw [this] at hm
          simp at hm
  intro m hm
  have hb : Region.before ops = ops.toList.foldl (fun acc o => acc.push (bits o acc)) #[] := by
    unfold Region.before
    rw [← Array.foldl_toList]
    rfl
  rw [hb] at hm ⊢
  exact key ops.toList [] #[] rfl rfl (fun m h => by simp at h) m hm
theorem before_listed {i : Nat} {listed : Array Bool} (hc : closed ops listed) : ∀ (m : Nat), bfr (Region.before ops) i m = true → (∀ om, ops[m]? = some om → ∀ e ∈ om.after, Region.binds .any e = true → listed.getD e.on false = true) → listed.getD i false = true := by
  intro m
  induction m using Nat.strongRecOn with
  | ind m ih =>
    intro h hm
    obtain ⟨om, h1, e, h2, h3, h4⟩ := before_spec m h
    have h5 := hm om h1 e h2 h3
    rcases h4 with rfl | ⟨h6, h7⟩
    · exact h5
    · exact ih e.on h6 h7 fun oe hoe => hc e.on oe hoe h5
theorem closed.set {listed : Array Bool} (hc : closed ops listed) {j : Nat} (hj : j ∈ Region.ready .any ops listed) : closed ops (listed.setIfInBounds j true) := fun m om hm hl e he hb => by
  by_cases hjm : j = m
  · subst hjm
    obtain ⟨_, o, ho, hall⟩ := mem_ready.1 hj
    rw [hm] at ho
    injection ho with ho
    subst ho
    exact getD_set_true (hall e he hb)
  · rw [getD_set_ne false hjm] at hl
    exact getD_set_true (hc m om hm hl e he hb)
theorem not_before {listed : Array Bool} (hc : closed ops listed) {i j : Nat} (hi : i ∈ Region.ready .any ops listed) (hj : j ∈ Region.ready .any ops listed) : bfr (Region.before ops) i j = false := by
  cases hb : bfr (Region.before ops) i j with
  | false => rfl
  | true =>
    obtain ⟨_, o, ho, hall⟩ := mem_ready.1 hj
    have h1 := before_listed hc j hb fun om hom e he hbi => by
      rw [ho] at hom; injection hom with hom; subst hom; exact hall e he hbi
    have h0 := (mem_ready.1 hi).1
    rcases Nat.lt_or_ge i listed.size with h' | h'
    · simp [h'] at h0 h1; rw [h0] at h1; cases h1
    · simp [Array.getElem?_eq_none h'] at h1
/-! ### an operation that may be taken first -/
def Yld (P : Program) (ops : Array Oper) (Sn : Sl) (o : Oper) (v : Value) (a : Act) : Prop :=
  (∀ c, o.op ≠ .defer c) ∧ ((Region.wanted o (yielded ops a.tmps) = true ∧ ∀ w, holds Sn w → (execOp a.eval o).run P w = .ok (.value v) w) ∨ (Region.wanted o (yielded ops a.tmps) = false ∧ v = undef))
theorem Yld.wpD {Sn : Sl} {i : Nat} {o : Oper} {v : Value} {a : Act} (hi : ops[i]? = some o) (hy : Yld P ops Sn o v a) {K : Act → World → Prop} {w : World} (hS : holds Sn w) (h : K (a.put o.dst v) w) : wpD P ops i K a w := by
  unfold Rc.wpD
  rw [hi]
  obtain ⟨hd, ⟨hw, hv⟩ | ⟨hw, rfl⟩⟩ := hy
  · exact ⟨hd, .inl ⟨hw, .inl ⟨v, w, hv w hS, h⟩⟩⟩
  · exact ⟨hd, .inr ⟨hw, h⟩⟩
theorem Yld.of_same {Sn : Sl} {o : Oper} {v : Value} {a a' : Act} (hy : Yld P ops Sn o v a) (he : execOp a'.eval o = execOp a.eval o) (hw : Region.wanted o (yielded ops a'.tmps) = Region.wanted o (yielded ops a.tmps)) : Yld P ops Sn o v a' := by
  unfold Yld at *
  rw [he, hw]
  exact hy
theorem OpW.of_same {o : Oper} {a a' : Act} {w : World} {Φ : Value → World → Prop} (he : execOp a'.eval o = execOp a.eval o) (h : OpW P o a w Φ) : OpW P o a' w Φ := by
  unfold OpW at *
  rw [he]
  exact h
theorem wpD_put {Sn : Sl} {j : Nat} {oi oj : Oper} {v : Value} (hj : ops[j]? = some oj) (hap : oi.apart ops oj = true) (hsi : ∀ cs b, oi.op ≠ .select cs b) (hsj : ∀ cs b, oj.op ≠ .select cs b) {K : Act → World → Prop} {a : Act} {w : World}
    (hy : Yld P ops Sn oi v a) (h : wpD P ops j K (a.put oi.dst v) w) : wpD P ops j (fun a' w' => Yld P ops Sn oi v a' ∧ K (a'.put oi.dst v) w') a w := by
  obtain ⟨h1, h2, h3⟩ := Oper.apart_spec hap
  have keep : ∀ (a : Act), Yld P ops Sn oi v a → ∀ u, Yld P ops Sn oi v (a.put oj.dst u) := fun a hy u =>
    hy.of_same (execOp_put oi hsi a oj.dst u h3) (wanted_put oi a oj.dst u h3)
  unfold wpD at *
  simp only [hj] at *
  obtain ⟨hd, h⟩ := h
  rw [wanted_put oj a oi.dst v h1] at h
  refine ⟨hd, h.imp (fun ⟨hw, h4⟩ => ⟨hw, ?_⟩) fun ⟨hw, h4⟩ => ⟨hw, keep a hy _, by rw [← Act.put_comm a v undef h2]; exact h4⟩⟩
  refine OpW.of_same (execOp_put oj hsj a oi.dst v h1).symm (h4.mono fun x w' h5 => ⟨keep a hy x, ?_⟩)
  rw [← Act.put_comm a v x h2]
  exact h5
theorem anyD_first {Sn : Sl} {i : Nat} {oi : Oper} {v : Value} (hi : ops[i]? = some oi) (hsel : ∀ (j : Nat) (o : Oper) cs b, ops[j]? = some o → o.op ≠ .select cs b) (hSn : ∀ s ∈ Sn, s.1 = i) :
    ∀ (fu : Nat) (listed : Array Bool) (Ss : Sl) (a : Act) (w : World), closed ops listed →
      (∀ j oj, ops[j]? = some oj → j ≠ i → listed.getD j true = false → (∀ e ∈ oj.after, Region.binds .any e = true → e.on ≠ i) → oi.apart ops oj = true) →
      i ∈ Region.ready .any ops listed → Yld P ops Sn oi v a → holds Sn w → holds Ss w →
      anyD P ops (Region.before ops) Q fu (listed.setIfInBounds i true) (Sn ++ Ss) (a.put oi.dst v) w → anyD P ops (Region.before ops) Q (fu + 1) listed Ss a w := by
  have self : ∀ (fu : Nat) (listed : Array Bool) (Ss : Sl) (a : Act) (w : World), Yld P ops Sn oi v a → holds Sn w → holds Ss w → anyD P ops (Region.before ops) Q fu (listed.setIfInBounds i true) (Sn ++ Ss) (a.put oi.dst v) w →
      wpD P ops i (fun a' w' => holds (Ss.filter fun s => !bfr (Region.before ops) s.1 i) w' ∧ anyD P ops (Region.before ops) Q fu (listed.setIfInBounds i true) (Ss.filter fun s => !bfr (Region.before ops) s.1 i) a' w') a w := fun fu listed Ss a w hy hS hSs H =>
    hy.wpD hi hS ⟨fun s hs => hSs s (List.mem_filter.1 hs).1, H.sub _ _ _ _ _ _ fun s hs => List.mem_append_right _ (List.mem_filter.1 hs).1⟩
  intro fu
  induction fu with
  | zero =>
    intro listed Ss a w _ _ hr hy hS hSs H
    refine ⟨fun h => (by rw [h] at hr; cases hr), fun j hj => ?_⟩
    by_cases hji : j = i
    · subst hji; exact self _ _ _ _ _ hy hS hSs H
    · have := ready_mono hj hji
      rw [H.1] at this
      cases this
  | succ fu ih =>
    intro listed Ss a w hc hfree hr hy hS hSs H
    refine ⟨fun h => (by rw [h] at hr; cases hr), fun j hj => ?_⟩
    by_cases hji : j = i
    · subst hji; exact self _ _ _ _ _ hy hS hSs H
    · have h1 := H.2 j (ready_mono hj hji)
      obtain ⟨hjun, oj, hoj, hall⟩ := mem_ready.1 hj
      have hnot : ∀ e ∈ oj.after, Region.binds .any e = true → e.on ≠ i := fun e he hb heq => by
        have h1 := hall e he hb
        have h0 := (mem_ready.1 hr).1
        rw [heq] at h1
        rcases Nat.lt_or_ge i listed.size with h' | h'
        · simp [h'] at h0 h1; rw [h0] at h1; cases h1
        · simp [Array.getElem?_eq_none h'] at h1
      have hbf := not_before hc hr hj
      have hfl : (Sn ++ Ss).filter (fun s => !bfr (Region.before ops) s.1 j) = Sn ++ Ss.filter (fun s => !bfr (Region.before ops) s.1 j) := by
        rw [List.filter_append]
        congr 1
        apply List.filter_eq_self.2
        intro s hs
        rw [hSn s hs, hbf]; rfl
      rw [hfl] at h1
      have h2 := wpD_put hoj (hfree j oj hoj hji hjun hnot) (fun cs b => hsel i oi cs b hi) (fun cs b => hsel j oj cs b hoj) hy h1
      have hfree' : ∀ k ok, ops[k]? = some ok → k ≠ i → (listed.setIfInBounds j true).getD k true = false →
          (∀ e ∈ ok.after, Region.binds .any e = true → e.on ≠ i) → oi.apart ops ok = true := fun k ok hk hki hun hno => by
        refine hfree k ok hk hki ?_ hno
        by_cases hjk : j = k
        · subst hjk; exact hjun
        · rw [getD_set_ne true hjk] at hun; exact hun
      refine h2.mono fun a' w' h3 => ?_
      obtain ⟨h4, h5, h6⟩ := h3
      have h7 : holds Sn w' := fun s hs => h5 s (List.mem_append_left _ hs)
      have h8 : holds (Ss.filter fun s => !bfr (Region.before ops) s.1 j) w' := fun s hs => h5 s (List.mem_append_right _ hs)
      refine ⟨h8, ih (listed.setIfInBounds j true) _ a' w' (hc.set hj) hfree' (ready_mono hr (Ne.symm hji)) h4 h7 h8 ?_⟩
      rw [Array.setIfInBounds_comm _ _ hji]
      exact h6
end
end Go.Rc
