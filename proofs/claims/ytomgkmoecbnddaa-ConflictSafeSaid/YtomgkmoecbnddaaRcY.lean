/- RcY: code. -/
import Derived.Test.YtomgkmoecbnddaaRcX
set_option linter.unusedVariables false
set_option linter.unusedSimpArgs false
set_option linter.unnecessarySimpa false
namespace Go.Rc
open Go Go.Sym
inductive MarksOk (σ : Sg) : L → List Deferred → Prop
  | nil : MarksOk σ .nil []
  | cons {p b c l ds} (h : σ p = some (b, c)) (h2 : MarksOk σ l ds) : MarksOk σ (.cons p l) ({ target := .collected b, args := #[] } :: ds)
theorem MarksOk.mono {σ τ : Sg} {l : L} {ds : List Deferred} (h : MarksOk σ l ds) (hs : Ext σ τ) : MarksOk τ l ds := by
  induction h with
  | nil => exact .nil
  | cons h _ ih => exact .cons (hs _ _ h) ih
def RoOk (σ : Sg) (rd : L) (ro : Option Nat) : Prop := (rd = .nil ∧ ro = none) ∨ ∃ p b c, rd = .cons p .nil ∧ σ p = some (b, c) ∧ ro = some b
theorem RoOk.mono {σ τ : Sg} {l : L} {ro : Option Nat} (h : RoOk σ l ro) (hs : Ext σ τ) : RoOk τ l ro := by
  rcases h with h | ⟨p, b, c, h1, h2, h3⟩
  · exact .inl h
  · exact .inr ⟨p, b, c, h1, hs _ _ h2, h3⟩
structure XOk (σ : Sg) (x : X) (ro : Option Nat) (ds : List Deferred) : Prop where
  df : MarksOk σ x.df ds
  rd : RoOk σ x.rd ro
theorem XOk.mono {σ τ : Sg} {x : X} {ro : Option Nat} {ds : List Deferred} (h : XOk σ x ro ds) (hs : Ext σ τ) : XOk τ x ro ds := ⟨h.df.mono hs, h.rd.mono hs⟩
section
variable {P : Program} {n : Nat}
def Lands (P : Program) (b : Frame) (kk : List Item) (cs : List Frame) (a : Act) (w : World) (m : Machine) : Nat → Prop
  | 0 => Steps P m (lone (b.atR a kk) cs w)
  | 1 => ∃ k2, Steps P m (lone (b.atR a (.code .ret :: k2)) cs w)
  | id + 2 => ∃ k2, exitTo id k2 = exitTo id kk ∧ Steps P m (lone (b.atR a (.code (.exit id) :: k2)) cs w)
theorem Lands.of_steps {b : Frame} {kk : List Item} {cs : List Frame} {a : Act} {w : World} {m m1 : Machine} (hs : Steps P m m1) : ∀ {e : Nat}, Lands P b kk cs a w m1 e → Lands P b kk cs a w m e
  | 0, h => Steps.trans hs h
  | 1, ⟨k2, h⟩ => ⟨k2, Steps.trans hs h⟩
  | _ + 2, ⟨k2, h1, h⟩ => ⟨k2, h1, Steps.trans hs h⟩
/-- ways out that are none of the items ahead -/
theorem Lands.past {b : Frame} {kk : List Item} {it : Item} {cs : List Frame} {a : Act} {w : World} {m : Machine} : ∀ {e : Nat}, Lands P b (it :: kk) cs a w m (e + 1) → (∀ id, e = id + 1 → exitTo id (it :: kk) = exitTo id kk) → Lands P b kk cs a w m (e + 1)
  | 0, ⟨k2, h⟩, _ => ⟨k2, h⟩
  | id + 1, ⟨k2, h1, h⟩, hx => ⟨k2, h1.trans (hx id rfl), h⟩
def Out (P : Program) (E : Env) (R : List Blk) (n : Nat) (ks : KS) (σ : Sg) (h : Hp) (w : World) (b : Frame) (kk : List Item) (cs : List Frame) (m : Machine) : Prop :=
  ∃ e fr' h' x' σ' a' w', ks e fr' h' x' = true ∧ FrOk σ' n fr' a' ∧ Step P E R σ h w σ' h' w' ∧ XOk σ' x' b.roundOf a'.defers ∧ Lands P b kk cs a' w' m e
structure DenOk (P : Program) (n : Nat) (c : Code) (d : Den) : Prop where
  ok : ∀ cf rb fr h x ks E R σ a w b kk cs, CfOk P cf → RbOk P rb σ → d cf rb fr h x ks = true → FrOk σ n fr a → HR P E R σ h w → XOk σ x b.roundOf a.defers → b.kind = .normal →
    Out P E R n ks σ h w b kk cs (lone (b.atR a (.code c :: kk)) cs w)
theorem Out.steps {E : Env} {R : List Blk} {ks : KS} {σ σ1 : Sg} {h h1 : Hp} {w w1 : World} {b : Frame} {kk : List Item} {cs : List Frame} {m m1 : Machine} (hs : Steps P m m1) (s : Step P E R σ h w σ1 h1 w1) (H : Out P E R n ks σ1 h1 w1 b kk cs m1) : Out P E R n ks σ h w b kk cs m := by
  obtain ⟨e, fr', h', x', σ', a', w', q1, q2, q3, q4, q5⟩ := H
  exact ⟨e, fr', h', x', σ', a', w', q1, q2, s.trans q3, q4, q5.of_steps hs⟩
theorem skip_ok : DenOk P n .skip cSkip := ⟨fun cf rb fr h x ks E R σ a w b kk cs _ _ e hf H hx _ => ⟨0, fr, h, x, σ, a, w, e, hf, .refl H, hx, .one stepR_skip⟩⟩
theorem label_ok {l : Nat} : DenOk P n (.label l) cSkip := ⟨fun cf rb fr h x ks E R σ a w b kk cs _ _ e hf H hx _ => ⟨0, fr, h, x, σ, a, w, e, hf, .refl H, hx, .one stepR_label⟩⟩
theorem exit_ok {id : Nat} : DenOk P n (.exit id) (cExit id) := ⟨fun cf rb fr h x ks E R σ a w b kk cs _ _ e hf H hx _ => ⟨id + 2, fr, h, x, σ, a, w, e, hf, .refl H, hx, kk, rfl, Steps.refl _ _⟩⟩
theorem ret_ok : DenOk P n .ret cRet := ⟨fun cf rb fr h x ks E R σ a w b kk cs _ _ e hf H hx _ => ⟨1, fr, h, x, σ, a, w, e, hf, .refl H, hx, kk, Steps.refl _ _⟩⟩
theorem cond_ok {c : Operand} {c1 c2 : Code} {g : G} {d1 d2 : Den} (hg : GOk n c g) (h1 : DenOk P n c1 d1) (h2 : DenOk P n c2 d2) : DenOk P n (.cond c c1 c2) (cCond g d1 d2) := ⟨fun cf rb fr h x ks E R σ a w b kk cs hcf hrb e hf H hx hk => by
  obtain ⟨val, v1, v2⟩ := hg.ex
  have e1 := v1 _ _ e
  have hr := v2 σ fr a hf
  obtain ⟨tg, y, b2, d, p, l, r, hv, e2⟩ := onC_t e1
  rw [hv] at hr
  obtain ⟨h0, e3⟩ := bi_f e2
  have h0 := beq_t h0
  subst h0
  obtain ⟨u, hu, hb⟩ := hr.c0
  rcases bi_t e3 with ⟨h3, e4⟩ | ⟨h3, e4⟩
  · have h3 := beq_t h3
    have : u = true := by subst hb; cases u <;> first | rfl | cases h3
    subst this
    exact Out.steps (.one (stepR_cond hu)) (.refl H) (h1.ok cf rb fr h x ks E R σ a w b kk cs hcf hrb e4 hf H hx hk)
  · have h3 := beq_f h3
    have : u = false := by subst hb; cases u <;> first | rfl | exact absurd rfl h3
    subst this
    exact Out.steps (.one (stepR_cond hu)) (.refl H) (h2.ok cf rb fr h x ks E R σ a w b kk cs hcf hrb e4 hf H hx hk)⟩
theorem seq_ok {c1 c2 : Code} {d1 d2 : Den} (h1 : DenOk P n c1 d1) (h2 : DenOk P n c2 d2) : DenOk P n (.seq c1 c2) (cSeq d1 d2) := ⟨fun cf rb fr h x ks E R σ a w b kk cs hcf hrb e hf H hx hk => by
  obtain ⟨e1, fr', h', x', σ', a', w', q1, q2, q3, q4, q5⟩ := h1.ok cf rb fr h x _ E R σ a w b (.code c2 :: kk) cs hcf hrb e hf H hx hk
  refine Out.steps (.one stepR_seq) (.refl H) ?_
  cases e1 with
  | zero => exact Out.steps q5 q3 (h2.ok cf rb fr' h' x' ks E R σ' a' w' b kk cs hcf (hrb.mono q3.ext) q1 q2 q3.hr q4 hk)
  | succ e1 => exact ⟨e1 + 1, fr', h', x', σ', a', w', q1, q2, q3, q4, q5.past fun id _ => rfl⟩⟩
theorem block_ok {id : Nat} {c : Code} {d : Den} (h1 : DenOk P n c d) : DenOk P n (.block id c) (cBlock id d) := ⟨fun cf rb fr h x ks E R σ a w b kk cs hcf hrb e hf H hx hk => by
  obtain ⟨e1, fr', h', x', σ', a', w', q1, q2, q3, q4, q5⟩ := h1.ok cf rb fr h x _ E R σ a w b (.inBlock id :: kk) cs hcf hrb e hf H hx hk
  refine Out.steps (.one stepR_block) (.refl H) ?_
  rcases bi_t q1 with ⟨h2, h3⟩ | ⟨h2, h3⟩
  · have h2 : e1 = id + 2 := beq_t h2
    subst h2
    obtain ⟨k2, h4, h5⟩ := q5
    have h6 : exitTo id k2 = some kk := by rw [h4]; simp [exitTo]
    exact ⟨0, fr', h', x', σ', a', w', h3, q2, q3, q4, Steps.trans h5 (.one (stepR_exit h6))⟩
  · have h2 : e1 ≠ id + 2 := beq_f h2
    cases e1 with
    | zero => exact ⟨0, fr', h', x', σ', a', w', h3, q2, q3, q4, Steps.trans q5 (.one stepR_inBlock)⟩
    | succ e1 =>
      refine ⟨e1 + 1, fr', h', x', σ', a', w', h3, q2, q3, q4, q5.past fun id' he => ?_⟩
      have : id ≠ id' := fun h => h2 (by omega)
      simp [exitTo, this]⟩
theorem loopN_ok {c : Code} {d : Den} (h1 : DenOk P n c d) {cf : Cf} {rb : RB} {ks : KS} {E : Env} {R : List Blk} {b : Frame} {kk : List Item} {cs : List Frame} (hcf : CfOk P cf) (hk : b.kind = .normal) : ∀ (N : Nat) {fr : T} {h : Hp} {x : X} {σ : Sg} {a : Act} {w : World}, RbOk P rb σ → loopN d cf rb N fr h x ks = true → FrOk σ n fr a → HR P E R σ h w → XOk σ x b.roundOf a.defers →
    Out P E R n ks σ h w b kk cs (lone (b.atR a (.code c :: .inLoop c :: kk)) cs w)
  | 0, _, _, _, _, _, _, _, e, _, _, _ => by cases e
  | N + 1, fr, h, x, σ, a, w, hrb, e, hf, H, hx => by
    obtain ⟨e1, fr', h', x', σ', a', w', q1, q2, q3, q4, q5⟩ := h1.ok cf rb fr h x _ E R σ a w b (.inLoop c :: kk) cs hcf hrb e hf H hx hk
    cases e1 with
    | zero => exact Out.steps (Steps.trans q5 (.one stepR_inLoop)) q3 (loopN_ok h1 hcf hk N (hrb.mono q3.ext) q1 q2 q3.hr q4)
    | succ e1 => exact ⟨e1 + 1, fr', h', x', σ', a', w', q1, q2, q3, q4, q5.past fun id _ => rfl⟩
theorem loop_ok {N : Nat} {c : Code} {d : Den} (h1 : DenOk P n c d) : DenOk P n (.loop c) (cLoop N d) := ⟨fun cf rb fr h x ks E R σ a w b kk cs hcf hrb e hf H hx hk =>
  Out.steps (.one stepR_loop) (.refl H) (loopN_ok h1 hcf hk N hrb e hf H hx)⟩
theorem reg_ok {id : Nat} {ops : Array Oper} {r : RgF} (hr : RegOk P n ops (List.range' 0 ops.toList.length) r) : DenOk P n (.region id ops false) (cReg r) := ⟨fun cf rb fr h x ks E R σ a w b kk cs hcf hrb e hf H hx hk => by
  have h1 := hr.ok cf rb fr h x _ E R σ a w hcf hrb e hf H
  obtain ⟨a', w', ⟨fr', h', σ', q1, q2, q3, q4⟩, h2⟩ := runL_steps (b := b) (k := kk) (cs := cs) _ _ _ h1
  rw [← List.range_eq_range', Array.length_toList] at h2
  exact ⟨0, fr', h', x, σ', a', w', q1, q2, q3, by rw [q4]; exact hx.mono q3.ext, .head stepR_region h2⟩⟩
theorem runL_WR {ops : Array Oper} {Φ : Act → World → Prop} : ∀ (l : List Nat) (a : Act) (w : World), runL (OpW P) ops Φ l a w → runL (OpR P) ops Φ l a w
  | [], _, _, h => h
  | i :: l, a, w, h => by
    unfold runL at h ⊢
    cases ho : ops[i]? with
    | none => rw [ho] at h; exact runL_WR l a w h
    | some o =>
      rw [ho] at h
      obtain ⟨hd, h⟩ := h
      exact ⟨hd, h.imp (fun ⟨h1, h2⟩ => ⟨h1, .inl (h2.mono fun x w' h3 => runL_WR l _ _ h3)⟩) fun ⟨h1, h2⟩ => ⟨h1, runL_WR l _ _ h2⟩⟩
theorem drw_ok {id : Nat} {ops : Array Oper} {r : DrF} (hm : P.follows .mixedOrders = true) (hr : DrOk P n ops ops.size (Array.replicate ops.size false) [] r) : DenOk P n (.region id ops true) (cDrw r) := ⟨fun cf rb fr h x ks E R σ a w b kk cs hcf hrb e hf H hx hk => by
  let w1 : World := { w with drawn := w.drawn + 1 }
  have s1 : Step P E R σ h w σ h w1 := Step.world H rfl rfl
  have h1 := hr.ok cf rb fr h x .nil _ E R σ a w1 [] hcf hrb e hf s1.hr (fun s hs => by simp at hs) (fun s hs => by simp at hs)
  have h2 := runL_WR _ _ _ (anyD_sound _ (w.tape w.drawn (.order b.fn id)) _ _ _ _ h1)
  obtain ⟨a', w', ⟨fr', h', σ', q1, q2, q3, q4⟩, h3⟩ := runL_steps (b := b) (k := kk) (cs := cs) _ _ _ h2
  refine ⟨0, fr', h', x, σ', a', w', q1, q2, s1.trans q3, by rw [q4]; exact hx.mono q3.ext, .head stepR_region_draw ?_⟩
  simp only [Region.schedule, hm, Bool.true_or, if_true]
  exact h3⟩
end
end Go.Rc
