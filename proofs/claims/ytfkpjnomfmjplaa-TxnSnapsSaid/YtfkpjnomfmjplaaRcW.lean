/- RcW: what the compiler makes of a region that draws. -/
import Derived.Test.YtfkpjnomfmjplaaRcV
set_option linter.unusedVariables false
set_option linter.unusedSimpArgs false
set_option linter.unnecessarySimpa false
namespace Go.Rc
open Go Go.Sym
def Rd.has : Rd → Nat → Pos → Prop
  | .nil, _, _ => False
  | .cons j q r, i, p => (j = i ∧ q = p) ∨ r.has i p
section
variable {P : Program} {n : Nat} {ops : Array Oper} {bf : Array Nat} {Q : Act → World → Prop}
theorem inN_t {na : List Nat} {i : Nat} {t f : Bool} (h : inN na i t f = true) : (i ∈ na ∧ t = true) ∨ (i ∉ na ∧ f = true) := by
  induction na with
  | nil => exact .inr ⟨by simp, h⟩
  | cons j l ih =>
    rcases bi_t (x := t) (y := inN l i t f) h with ⟨h1, h2⟩ | ⟨h1, h2⟩
    · have h1 := beq_t h1
      subst h1
      exact .inl ⟨by simp, h2⟩
    · have h1 := beq_f h1
      rcases ih h2 with ⟨h3, h4⟩ | ⟨h3, h4⟩
      · exact .inl ⟨List.mem_cons_of_mem _ h3, h4⟩
      · exact .inr ⟨by simp [Ne.symm h1, h3], h4⟩
theorem apart_t {rds : Rd} {na : List Nat} {lg : L} {k : Bool} (h : apart rds na lg k = true) : k = true ∧ ∀ i p, rds.has i p → i ∈ na → ¬ lg.has p := by
  induction rds with
  | nil => exact ⟨h, fun _ _ h => h.elim⟩
  | cons j q r ih =>
    have h : inN na j (inL lg q false (apart r na lg k)) (apart r na lg k) = true := h
    rcases inN_t h with ⟨h1, h2⟩ | ⟨h1, h2⟩
    · rcases inL_t h2 with ⟨_, h3⟩ | ⟨h3, h4⟩
      · cases h3
      · obtain ⟨h5, h6⟩ := ih h4
        refine ⟨h5, fun i p hp hi => ?_⟩
        rcases hp with ⟨rfl, rfl⟩ | hp
        · exact h3
        · exact h6 i p hp hi
    · obtain ⟨h5, h6⟩ := ih h2
      refine ⟨h5, fun i p hp hi => ?_⟩
      rcases hp with ⟨rfl, rfl⟩ | hp
      · exact absurd hi h1
      · exact h6 i p hp hi
def RdOk (σ : Sg) (h : Hp) (w : World) (rds : Rd) (Ss : Sl) : Prop := ∀ s ∈ Ss, ∃ p c, rds.has s.1 p ∧ Live h p ∧ σ p = some (s.2.1, c) ∧ w.heap[s.2.1]? = s.2.2
theorem HR.lg {E : Env} {R : List Blk} {σ : Sg} {t : HT} {nx : Pos} {l l' : L} {w : World} (H : HR P E R σ ⟨t, nx, l⟩ w) : HR P E R σ ⟨t, nx, l'⟩ w := ⟨H.env, H.live, H.inj, H.frame, H.fresh, H.frz⟩
structure DrOk (P : Program) (n : Nat) (ops : Array Oper) (fu : Nat) (listed : Array Bool) (tk : List Nat) (r : DrF) : Prop where
  ok : ∀ cf rb fr h x rds kf E R σ a w Ss, CfOk P cf → RbOk P rb σ → r cf rb fr h x rds kf = true → FrOk σ n fr a → HR P E R σ h w → RdOk σ h w rds Ss → (∀ s ∈ Ss, s.1 ∈ tk) →
    anyD P ops (Region.before ops) (Aft P E R σ h w n a.defers fun fr' h' => kf fr' h' x) fu listed Ss a w
theorem dDone_ok {fu : Nat} {listed : Array Bool} {tk : List Nat} (hr : Region.ready .any ops listed = []) : DrOk P n ops fu listed tk dDone := ⟨fun cf rb fr h x rds kf E R σ a w Ss _ _ e hf H _ _ => by
  have hq : Aft P E R σ h w n a.defers (fun fr' h' => kf fr' h' x) a w := ⟨fr, h, σ, e, hf, .refl H, rfl⟩
  cases fu with
  | zero => exact ⟨hr, hq⟩
  | succ fu => exact ⟨fun _ => hq, fun j hj => by rw [hr] at hj; cases hj⟩⟩
/-- a loud operation, and what follows -/
theorem dOne_ok {fu : Nat} {listed : Array Bool} {tk : List Nat} {j : Nat} {o : Oper} {f : OpF} {s : Option S} {gd : Option (G × Bool)} {r : DrF} (ho : ops[j]? = some o) (hd : DstOk n o.dst s) (hg : GdOk n ops o gd) (hnd : ∀ c, o.op ≠ .defer c) (hf : WOk P n o.op f) (hr : DrOk P n ops fu (listed.setIfInBounds j true) tk r)
    {cf : Cf} {rb : RB} {fr : T} {h : Hp} {x : X} {rds : Rd} {kf : KF} {E : Env} {R : List Blk} {σ : Sg} {a : Act} {w : World} {Ss : Sl} (hcf : CfOk P cf) (hrb : RbOk P rb σ) (e : dOne (notBefore (Region.before ops) tk j) (rMk f s gd rNil) r cf rb fr h x rds kf = true) (hfr : FrOk σ n fr a) (H : HR P E R σ h w) (hrd : RdOk σ h w rds Ss) (htk : ∀ s ∈ Ss, s.1 ∈ tk) :
    wpD P ops j (fun a' w' => holds (Ss.filter fun s => !bfr (Region.before ops) s.1 j) w' ∧ anyD P ops (Region.before ops) (Aft P E R σ h w n a.defers fun fr' h' => kf fr' h' x) fu (listed.setIfInBounds j true) (Ss.filter fun s => !bfr (Region.before ops) s.1 j) a' w') a w := by
  obtain ⟨t, nx, lg⟩ := h
  have e1 : rMk f s gd rNil cf rb fr ⟨t, nx, .nil⟩ x (fun fr' h' x' => @Hp.rec (fun _ => Bool) (fun t' nx' lg' => apart rds (notBefore (Region.before ops) tk j) lg' (appL lg' lg fun lg'' => r cf rb fr' ⟨t', nx', lg''⟩ x' rds kf)) h') = true := e
  unfold wpD
  rw [ho]
  refine stepX.mono monoW (one_ok monoW hd hg hnd (fun cf rb fr h k E R σ a w q1 q2 q3 q4 q5 => hf.ok cf rb fr h k E R σ a w o rfl q1 q2 q3 q4 q5) hcf hrb e1 hfr H.lg) fun a' w' h1 => ?_
  obtain ⟨fr', h', σ', e2, hf', hs, hdd⟩ := h1
  obtain ⟨t', nx', lg'⟩ := h'
  obtain ⟨e3, hap⟩ := apart_t (k := appL lg' lg fun lg'' => r cf rb fr' ⟨t', nx', lg''⟩ x rds kf) e2
  rw [appL_eq] at e3
  obtain ⟨new, hnew, hkeep⟩ := hs.log
  have hnew : lg' = new := by
    have : lg' = new.app .nil := hnew
    rwa [L.app_nil] at this
  subst hnew
  have hs2 : Step P E R σ ⟨t, nx, lg⟩ w σ' ⟨t', nx', lg'.app lg⟩ w' := ⟨hs.ext, hs.hr.lg, lg', rfl, fun p b c hl hsp hn => hkeep p b c hl hsp hn⟩
  have hrd2 : RdOk σ' ⟨t', nx', lg'.app lg⟩ w' rds (Ss.filter fun s => !bfr (Region.before ops) s.1 j) := fun s hm => by
    rw [List.mem_filter] at hm
    obtain ⟨p, c, h2, h3, h4, h5⟩ := hrd s hm.1
    have hna : s.1 ∈ notBefore (Region.before ops) tk j := by
      unfold notBefore
      rw [List.mem_filter]
      exact ⟨htk s hm.1, hm.2⟩
    obtain ⟨h6, h7⟩ := hkeep p _ c h3 h4 (hap _ _ h2 hna)
    exact ⟨p, c, h2, h6, hs.ext _ _ h4, h7.trans h5⟩
  refine ⟨fun s hm => (hrd2 s hm).elim fun p h => h.elim fun c h => h.2.2.2, ?_⟩
  refine anyD.mono (fun a v hq => Aft.trans hs2 hq) _ _ _ _ _ ?_
  rw [← hdd]
  exact hr.ok cf rb fr' _ x rds kf E R σ' a' w' _ hcf (hrb.mono hs.ext) e3 hf' hs2.hr hrd2 fun s hm => htk s (List.mem_filter.1 hm).1
/-- a quiet operation, taken first -/
theorem dTake_ok {fu : Nat} {listed : Array Bool} {tk tk' : List Nat} {i : Nat} {o : Oper} {t : Nat} {r : DrF} (ho : ops[i]? = some o) (hdst : o.dst = some t) (ht : t < n) (hnd : ∀ c, o.op ≠ .defer c)
    (hsel : ∀ (j : Nat) (o : Oper) cs b, ops[j]? = some o → o.op ≠ .select cs b) (hc : closed ops listed) (hfree : Region.free .any ops listed i = true) (hi : i ∈ Region.ready .any ops listed)
    (hr : DrOk P n ops fu (listed.setIfInBounds i true) tk' r) (hsub : ∀ j ∈ tk, j ∈ tk')
    {cf : Cf} {rb : RB} {fr : T} {h : Hp} {x : X} {rds rds' : Rd} {kf : KF} {E : Env} {R : List Blk} {σ : Sg} {a : Act} {w : World} {Ss Sn : Sl} {v : V} {x1 : Value} (hcf : CfOk P cf) (hrb : RbOk P rb σ) (hv : Rel σ v x1) (hy : Yld P ops Sn o x1 a) (hSn : holds Sn w) (hSn1 : ∀ s ∈ Sn, s.1 = i ∧ i ∈ tk' ∧ ∃ p c, rds'.has i p ∧ Live h p ∧ σ p = some (s.2.1, c))
    (hrds : ∀ j p, rds.has j p → rds'.has j p) (e : r cf rb (fr.set v (posOf t)) h x rds' kf = true) (hfr : FrOk σ n fr a) (H : HR P E R σ h w) (hrd : RdOk σ h w rds Ss) (htk : ∀ s ∈ Ss, s.1 ∈ tk) :
    anyD P ops (Region.before ops) (Aft P E R σ h w n a.defers fun fr' h' => kf fr' h' x) (fu + 1) listed Ss a w := by
  refine anyD_first ho hsel (fun s hs => (hSn1 s hs).1) fu listed Ss a w hc (Region.free_spec ho hfree) hi hy hSn (fun s hs => (hrd s hs).elim fun p h => h.elim fun c h => h.2.2.2) ?_
  rw [hdst]
  have hdd : a.defers = (a.put (some t) x1).defers := rfl
  rw [hdd]
  refine hr.ok cf rb _ h x rds' kf E R σ _ w _ hcf hrb e (hfr.put ht hv) H (fun s hs => ?_) fun s hs => ?_
  · rcases List.mem_append.1 hs with hs | hs
    · obtain ⟨h1, _, p, c, h2, h3, h4⟩ := hSn1 s hs
      exact ⟨p, c, h1 ▸ h2, h3, h4, hSn s hs⟩
    · obtain ⟨p, c, h1, h2⟩ := hrd s hs
      exact ⟨p, c, hrds _ _ h1, h2⟩
  · rcases List.mem_append.1 hs with hs | hs
    · obtain ⟨h1, h2, _⟩ := hSn1 s hs
      exact h1 ▸ h2
    · exact hsub _ (htk s hs)
end
end Go.Rc
