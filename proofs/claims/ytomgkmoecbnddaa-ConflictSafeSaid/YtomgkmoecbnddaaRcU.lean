/- RcU: regions that are carried out in one order. -/
import Derived.Test.YtomgkmoecbnddaaRcT
set_option linter.unusedVariables false
set_option linter.unusedSimpArgs false
set_option linter.unnecessarySimpa false
namespace Go.Rc
open Go Go.Sym
def Aft (P : Program) (E : Env) (R : List Blk) (σ : Sg) (h : Hp) (w : World) (n : Nat) (ds : List Deferred) (kf : T → Hp → Bool) : Act → World → Prop := fun a' w' => ∃ fr' h' σ', kf fr' h' = true ∧ FrOk σ' n fr' a' ∧ Step P E R σ h w σ' h' w' ∧ a'.defers = ds
section
variable {P : Program} {n : Nat} {ops : Array Oper}
theorem Aft.trans {E : Env} {R : List Blk} {σ σ' : Sg} {h h' : Hp} {w w' : World} {ds : List Deferred} {kf : T → Hp → Bool} (s : Step P E R σ h w σ' h' w') {a : Act} {v : World} (H : Aft P E R σ' h' w' n ds kf a v) : Aft P E R σ h w n ds kf a v := by
  obtain ⟨fr1, h1, σ1, e1, e2, e3, e4⟩ := H
  exact ⟨fr1, h1, σ1, e1, e2, s.trans e3, e4⟩
def MonoP (W : OpP) : Prop := ∀ o a w Φ Ψ, W o a w Φ → (∀ x w', Φ x w' → Ψ x w') → W o a w Ψ
theorem monoW : MonoP (OpW P) := fun _ _ _ _ _ h hi => h.mono hi
theorem monoR : MonoP (OpR P) := fun _ _ _ _ _ h hi => h.mono hi
theorem stepX.mono {W : OpP} (hW : MonoP W) {o : Oper} {a : Act} {w : World} {Φ Ψ : Act → World → Prop} (h : stepX W ops o a w Φ) (hi : ∀ a w, Φ a w → Ψ a w) : stepX W ops o a w Ψ := by
  obtain ⟨hd, ⟨hw, h⟩ | ⟨hw, h⟩⟩ := h
  · exact ⟨hd, .inl ⟨hw, hW _ _ _ _ _ h fun x w' => hi _ _⟩⟩
  · exact ⟨hd, .inr ⟨hw, hi _ _ h⟩⟩
theorem runL.mono {W : OpP} (hW : MonoP W) {Φ Ψ : Act → World → Prop} (hi : ∀ a w, Φ a w → Ψ a w) : ∀ (l : List Nat) (a : Act) (w : World), runL W ops Φ l a w → runL W ops Ψ l a w
  | [], a, w, h => hi _ _ h
  | i :: l, a, w, h => by
    unfold runL at h ⊢
    cases ho : ops[i]? with
    | none => rw [ho] at h; exact runL.mono hW hi l a w h
    | some o => rw [ho] at h; exact stepX.mono hW h fun a w h => runL.mono hW hi l a w h
theorem put_defers (a : Act) (d : Option Tmp) (v : Value) : (a.put d v).defers = a.defers := by cases d <;> rfl
noncomputable def dput (s : Option S) (v : V) (fr : T) (k : T → Bool) : Bool := match s with
  | some s => s v fr k
  | none => k fr
/-- one operation, guard and destination and all -/
theorem one_ok {W : OpP} (hW : MonoP W) {f : OpF} {o : Oper} {s : Option S} {gd : Option (G × Bool)} (hd : DstOk n o.dst s) (hg : GdOk n ops o gd) (hnd : ∀ c, o.op ≠ .defer c)
    (hf : ∀ cf rb fr h k E R σ a w, CfOk P cf → RbOk P rb σ → f cf rb fr h k = true → FrOk σ n fr a → HR P E R σ h w → W o a w (Good P E R σ h w k))
    {r : RgF} {cf : Cf} {rb : RB} {fr : T} {h : Hp} {x : X} {kf : KF} {E : Env} {R : List Blk} {σ : Sg} {a : Act} {w : World} (hcf : CfOk P cf) (hrb : RbOk P rb σ) (e : rMk f s gd r cf rb fr h x kf = true) (hfr : FrOk σ n fr a) (H : HR P E R σ h w) :
    stepX W ops o a w (Aft P E R σ h w n a.defers fun fr' h' => r cf rb fr' h' x kf) := by
  -- a value put into the destination
  have put : ∀ {v : V} {x1 : Value} {σ' : Sg} {h' : Hp} {w' : World}, (dput s v fr fun fr' => r cf rb fr' h' x kf) = true → Rel σ' v x1 → Step P E R σ h w σ' h' w' → Aft P E R σ h w n a.defers (fun fr' h' => r cf rb fr' h' x kf) (a.put o.dst x1) w' := fun {v x1 σ' h' w'} e1 hr hs => by
    rcases hd with ⟨hd1, rfl⟩ | ⟨t, rr, hd1, ht, rfl, hput⟩
    · rw [hd1]
      exact ⟨fr, h', σ', e1, hfr.mono hs.ext, hs, rfl⟩
    · rw [hd1]
      exact ⟨_, h', σ', hput _ _ _ e1, (hfr.mono hs.ext).put ht hr, hs, rfl⟩
  have carry : ∀ {e1 : Bool}, (f cf rb fr h fun v h' => dput s v fr fun fr' => r cf rb fr' h' x kf) = true → W o a w fun x1 w' => Aft P E R σ h w n a.defers (fun fr' h' => r cf rb fr' h' x kf) (a.put o.dst x1) w' := fun {_} e1 => by
    refine hW _ _ _ _ _ (hf _ _ _ _ _ _ _ _ _ _ hcf hrb e1 hfr H) fun x1 w' hgood => ?_
    obtain ⟨v, σ', h', e2, hr, hs⟩ := hgood
    exact put e2 hr hs
  refine ⟨hnd, ?_⟩
  rcases hg with ⟨hg1, rfl⟩ | ⟨j, wn, dj, g, hg1, hg2, hg3, rfl, hg4⟩
  · refine .inl ⟨wanted_none hg1, carry (e1 := true) ?_⟩
    cases s <;> exact e
  · obtain ⟨h1, h2⟩ := wanted_some (o := o) (w := wn) hg1 hg2 hg3 hfr.size
    cases s with
    | none =>
      have e2 : (g fr fun c => onGd wn c (f cf rb fr h fun _ h' => r cf rb fr h' x kf) (r cf rb fr h x kf)) = true := e
      rcases onGd_t (hg4 _ _ e2) (hfr.get dj) with ⟨h3, h4⟩ | ⟨h3, h4⟩
      · exact .inl ⟨h1 h3, carry (e1 := true) h4⟩
      · exact .inr ⟨h2 h3, put (v := vUndef) h4 (.undef σ) (.refl H)⟩
    | some s =>
      have e2 : (g fr fun c => onGd wn c (f cf rb fr h fun v h' => s v fr fun fr' => r cf rb fr' h' x kf) (s vUndef fr fun fr' => r cf rb fr' h x kf)) = true := e
      rcases onGd_t (hg4 _ _ e2) (hfr.get dj) with ⟨h3, h4⟩ | ⟨h3, h4⟩
      · exact .inl ⟨h1 h3, carry (e1 := true) h4⟩
      · exact .inr ⟨h2 h3, put (v := vUndef) h4 (.undef σ) (.refl H)⟩
theorem copK_nd {dr : Bool} {op : Op} {k : KO} (h : copK P n dr op k = true) : ∀ c, op ≠ .defer c := fun c e => by subst e; cases h
structure RegOk (P : Program) (n : Nat) (ops : Array Oper) (l : List Nat) (r : RgF) : Prop where
  ok : ∀ cf rb fr h x kf E R σ a w, CfOk P cf → RbOk P rb σ → r cf rb fr h x kf = true → FrOk σ n fr a → HR P E R σ h w → runL (OpR P) ops (Aft P E R σ h w n a.defers fun fr' h' => kf fr' h' x) l a w
theorem OpSpec.o {dr : Bool} {op : Op} {f : OpF} {kd : Kd} (h : OpSpec P n dr op f kd) : OOp P n op f := by
  cases h with
  | quiet h => exact h.w.o
  | read _ h => exact h.w.o
  | loud h _ => exact h
theorem OpSpec.w' {op : Op} {f : OpF} {kd : Kd} (h : OpSpec P n true op f kd) : WOk P n op f := by
  cases h with
  | quiet h => exact h.w
  | read _ h => exact h.w
  | loud _ h => exact h rfl
theorem regK_t : ∀ {l : List Oper} {i : Nat} {k : RgF → Bool}, (∀ j o, l[j]? = some o → ops[i + j]? = some o) → regK P n ops l k = true → ∃ r, RegOk P n ops (List.range' i l.length) r ∧ k r = true
  | [], i, k, _, h => ⟨rNil, ⟨fun cf rb fr hp x kf E R σ a w _ _ e hf H => ⟨fr, hp, σ, e, hf, .refl H, rfl⟩⟩, h⟩
  | o :: l, i, k, hl, h => by
    unfold regK at h
    have hnd := copK_nd h
    obtain ⟨f, kd, h1, hs⟩ := copK_t h
    obtain ⟨s, hd, h2⟩ := dstK_t h1
    obtain ⟨gd, hg, h3⟩ := gdK_t h2
    obtain ⟨r, hr, h4⟩ := regK_t (i := i + 1) (fun j o' hj => by have := hl (j + 1) o' (by simpa using hj); rwa [show i + (j + 1) = i + 1 + j by omega] at this) h3
    have ho : ops[i]? = some o := hl 0 o rfl
    have hk : k (rMk f s gd r) = true := by
      cases gd with
      | none => cases s <;> exact h4
      | some gw => obtain ⟨g, w⟩ := gw; cases s <;> exact h4
    refine ⟨_, ⟨fun cf rb fr hp x kf E R σ a w hcf hrb e hfr H => ?_⟩, hk⟩
    rw [List.length_cons, List.range'_succ]
    unfold runL
    rw [ho]
    refine stepX.mono monoR (one_ok monoR hd hg hnd (fun cf rb fr h k E R σ a w q1 q2 q3 q4 q5 => hs.o.ok cf rb fr h k E R σ a w o rfl q1 q2 q3 q4 q5) hcf hrb e hfr H) fun a' w' h5 => ?_
    obtain ⟨fr', h', σ', e1, hf1, hs1, hd1⟩ := h5
    refine runL.mono monoR (fun a v hq => Aft.trans hs1 hq) _ _ _ ?_
    rw [← hd1]
    exact hr.ok cf rb fr' h' x kf E R σ' a' w' hcf (hrb.mono hs1.ext) e1 hf1 hs1.hr
end
end Go.Rc
