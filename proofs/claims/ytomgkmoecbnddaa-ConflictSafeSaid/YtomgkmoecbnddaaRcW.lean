/- RcW: what the compiler makes of a region that draws. -/
import Derived.Test.YtomgkmoecbnddaaRcV
set_option linter.unusedVariables false
set_option linter.unusedSimpArgs false
set_option linter.unnecessarySimpa false
namespace Go.Rc
open Go Go.Sym
def Rd.has : Rd → Nat → Pos → Prop
  | .nil, _, _ => False
  | .cons j q r, i, p => (j = i ∧ q = p) ∨ r.has i p
section
variable {P : Program} {n : Nat} {ops : Array Oper} {bf : Array Nat} {Q : Act → World → Prop}
theorem inN_t {na : List Nat} {i : Nat} {t f : Bool} (h : inN na i t f = true) : (i ∈ na ∧ t = true) ∨ (i ∉ na ∧ f = true) := by
  induction na with
  | nil => exact .inr ⟨by simp, h⟩
  | cons j l ih =>
    rcases bi_t (x := t) (y := inN l i t f) h with ⟨h1, h2⟩ | ⟨h1, h2⟩
    · have h1 := beq_t h1
      subst h1
      exact .inl ⟨by simp, h2⟩
    · have h1 := beq_f h1
      rcases ih h2 with ⟨h3, h4⟩ | ⟨h3, h4⟩
      · exact .inl ⟨List.mem_cons_of_mem _ h3, h4⟩
      · exact .inr ⟨by simp [Ne.symm h1, h3], h4⟩
theorem apart_t {rds : Rd} {na : List Nat} {lg : L} {k : Bool} (h : apart rds na lg k = true) : k = true ∧ ∀ i p, rds.has i p → i ∈ na → ¬ lg.has p := by
  induction rds with
  | nil => exact ⟨h, fun _ _ h => h.elim⟩
  | cons j q r ih =>
    have h : inN na j (inL lg q false (apart r na lg k)) (apart r na lg k) = true := h
    rcases inN_t h with ⟨h1, h2⟩ | ⟨h1, h2⟩
    · rcases inL_t h2 with ⟨_, h3⟩ | ⟨h3, h4⟩
      · cases h3
      · obtain ⟨h5, h6⟩ := ih h4
        refine ⟨h5, fun i p hp hi => ?_⟩
        rcases hp with ⟨rfl, rfl⟩ | hp
        · exact h3
        · exact h6 i p hp hi
    · obtain ⟨h5, h6⟩ := ih h2
      refine ⟨h5, fun i p hp hi => ?_⟩
      rcases hp with ⟨rfl, rfl⟩ | hp
      · exact absurd hi h1
      · exact h6 i p hp hi
def RdOk (σ : Sg) (h : Hp) (w : World) (rds : Rd) (Ss : Sl) : Prop := ∀ s ∈ Ss, ∃ p c, rds.has s.1 p ∧ Live h p ∧ σ p = some (s.2.1, c) ∧ w.heap[s.2.1]? = s.2.2
theorem HR.lg {E : Env} {R : List Blk} {σ : Sg} {t : HT} {nx : Pos} {l l' : L} {w : World} (H : HR P E R σ ⟨t, nx, l⟩ w) : HR P E R σ ⟨t, nx, l'⟩ w := ⟨H.env, H.live, H.inj, H.frame, H.fresh⟩
structure DrOk (P : Program) (n : Nat) (ops : Array Oper) (fu : Nat) (listed : Array Bool) (tk : List Nat) (r : DrF) : Prop where
  ok : ∀ cf rb fr h x rds kf E R σ a w Ss, CfOk P cf → RbOk P rb σ → r cf rb fr h x rds kf = true → FrOk σ n fr a → HR P E R σ h w → RdOk σ h w rds Ss → (∀ s ∈ Ss, s.1 ∈ tk) →
    anyD P ops (Region.before ops) (Aft P E R σ h w n a.defers fun fr' h' => kf fr' h' x) fu listed Ss a w
theorem dDone_ok {fu : Nat} {listed : Array Bool} {tk : List Nat} (hr : Region.ready .any ops listed = []) : DrOk P n ops fu listed tk dDone := ⟨fun cf rb fr h x rds kf E R σ a w Ss _ _ e hf H _ _ => by
  have hq : Aft P E R σ h w n a.defers (fun fr' h' => kf fr' h' x) a w := ⟨fr, h, σ, e, hf, .refl H, rfl⟩
  cases fu with
  | zero => exact ⟨hr, hq⟩
  | succ fu => exact ⟨fun _ => hq, fun j hj => by rw [hr] at hj; cases hj⟩⟩
/-- a loud operation, and what follows -/
theorem dOne_ok {fu : Nat} {listed : Array Bool} {tk : List Nat} {j : Nat} {o : Oper} {f : OpF} {s : Option S} {gd : Option (G × Bool)} {r : DrF} (ho : ops[j]? = some o) (hd : DstOk n o.dst s) (hg : GdOk n ops o gd) (hnd : ∀ c, o.op ≠ .defer c) (hf : WOk P n o.op f) (hr : DrOk P n ops fu (listed.setIfInBounds j true) tk r)
    {cf : Cf} {rb : RB} {fr : T} {h : Hp} {x : X} {rds : Rd} {kf : KF} {E : Env} {R : List Blk} {σ : Sg} {a : Act} {w : World} {Ss : Sl} (hcf : CfOk P cf) (hrb : RbOk P rb σ) (e : dOne (notBefore (Region.before ops) tk j) (rMk f s gd rNil) r cf rb fr h x rds kf = true) (hfr : FrOk σ n fr a) (H : HR P E R σ h w) (hrd : RdOk σ h w rds Ss) (htk : ∀ s ∈ Ss, s.1 ∈ tk) :
    wpD P ops j (fun a' w' => holds (Ss.filter fun s => !bfr (Region.before ops) s.1 j) w' ∧ anyD P ops (Region.before ops) (Aft P E R σ h w n a.defers fun fr' h' => kf fr' h' x) fu (listed.setIfInBounds j true) (Ss.filter fun s => !bfr (Region.before ops) s.1 j) a' w') a w := by
  obtain ⟨t, nx, lg⟩ := h
  have e1 : rMk f s gd rNil cf rb fr ⟨t, nx, .nil⟩ x (fun fr' h' x' => @Hp.rec (fun _ => Bool) (fun t' nx' lg' => apart rds (notBefore (Region.before ops) tk j) lg' (appL lg' lg fun lg'' => r cf rb fr' ⟨t', nx', lg''⟩ x' rds kf)) h') = true := e
  unfold wpD
  rw [ho]
  refine stepX.mono monoW (one_ok monoW hd hg hnd (fun cf rb fr h k E R σ a w q1 q2 q3 q4 q5 => hf.ok cf rb fr h k E R σ a w o rfl q1 q2 q3 q4 q5) hcf hrb e1 hfr H.lg) fun a' w' h1 => ?_
  obtain ⟨fr', h', σ', e2, hf', hs, hdd⟩ := h1
  obtain ⟨t', nx', lg'⟩ := h'
  obtain ⟨e3, hap⟩ := apart_t (k := appL lg' lg fun lg'' => r cf rb fr' ⟨t', nx', lg''⟩ x rds kf) e2
  rw [appL_eq] at e3
  obtain ⟨new, hnew, hkeep⟩ := hs.log
  have hnew : lg' = new := by
    have : lg' = new.app .nil := hnew
    rwa [L.app_nil] at this
  subst hnew
  have hs2 : Step P E R σ ⟨t, nx, lg⟩ w σ' ⟨t', nx', lg'.app lg⟩ w' := ⟨hs.ext, hs.hr.lg, lg', rfl, fun p b c hl hsp hn => hkeep p b c hl hsp hn⟩
  have hrd2 : RdOk σ' ⟨t', nx', lg'.app lg⟩ w' rds (Ss.filter fun s => !bfr (Region.before ops) s.1 j) := fun s hm => by
    rw [List.mem_filter] at hm
    obtain ⟨p, c, h2, h3, h4, h5⟩ := hrd s hm.1
    have hna : s.1 ∈ notBefore (Region.before ops) tk j := by
      unfold notBefore
      rw [List.mem_filter]
      exact ⟨htk s hm.1, hm.2⟩
    obtain ⟨h6, h7⟩ := hkeep p _ c h3 h4 (hap _ _ h2 hna)
    exact ⟨p, c, h2, h6, hs.ext _ _ h4, h7.trans h5⟩
  refine ⟨fun s hm => (hrd2 s hm).elim fun p h => h.elim fun c h => h.2.2.2, ?_⟩
  refine anyD.mono (fun a v hq => Aft.trans hs2 hq) _ _ _ _ _ ?_
  rw [← hdd]
  exact hr.ok cf rb fr' _ x rds kf E R σ' a' w' _ hcf (hrb.mono hs.ext) e3 hf' hs2.hr hrd2 fun s hm => htk s (List.mem_filter.1 hm).1
/-- the other way: what is put, is put ahead -/
theorem wpD_ahead {i j : Nat} {oi oj : Oper} {v : Value} (hj : ops[j]? = some oj) (hap : oi.apart ops oj = true) (hsi : ∀ cs b, oi.op ≠ .select cs b) (hsj : ∀ cs b, oj.op ≠ .select cs b) {K K0 : Act → World → Prop} {a : Act} {w : World}
    (h : wpD P ops j K0 a w) (hK : ∀ a' w', execOp a'.eval oi = execOp a.eval oi → K0 a' w' → K (a'.put oi.dst v) w') : wpD P ops j K (a.put oi.dst v) w := by
  obtain ⟨h1, h2, h3⟩ := Oper.apart_spec hap
  unfold wpD at *
  simp only [hj] at *
  obtain ⟨hd, h⟩ := h
  refine ⟨hd, ?_⟩
  rw [wanted_put oj a oi.dst v h1]
  refine h.imp (fun ⟨hw, h4⟩ => ⟨hw, ?_⟩) fun ⟨hw, h4⟩ => ⟨hw, ?_⟩
  · refine OpW.of_same (execOp_put oj hsj a oi.dst v h1) (h4.mono fun x w' h5 => ?_)
    rw [Act.put_comm a v x h2]
    exact hK _ _ (execOp_put oi hsi a oj.dst x h3) h5
  · rw [Act.put_comm a v undef h2]
    exact hK _ _ (execOp_put oi hsi a oj.dst undef h3) h4
theorem RdOk.grew {σ : Sg} {h : Hp} {w w' : World} {rds : Rd} {Ss : Sl} {E : Env} {R : List Blk} (H : HR P E R σ h w) (g : Grew w w') (hr : RdOk σ h w rds Ss) : RdOk σ h w' rds Ss := fun s hs => by
  obtain ⟨p, c, h1, h2, h3, h4⟩ := hr s hs
  obtain ⟨b, c', ob, h5, h6, _⟩ := H.live p h2
  rw [h3] at h5
  injection h5 with h5
  injection h5 with h5 _
  subst h5
  exact ⟨p, c, h1, h2, h3, by rw [← h4, h6]; exact g.2 _ _ h6⟩
/-- a block laid ahead of the one other operation that is ready -/
theorem par_ok {fu : Nat} {listed : Array Bool} {tk : List Nat} {i j t : Nat} {oi oj : Oper} {f fj : OpF} {s : S} {sj : Option S} {gj : Option (G × Bool)} {r : DrF} (hi : ops[i]? = some oi) (hj : ops[j]? = some oj) (hgi : oi.guard = none) (hdi : oi.dst = some t) (ht : t < n)
    (hs : ∀ v fr k, s v fr k = true → k (fr.set v (posOf t)) = true) (hap : oi.apart ops oj = true) (hndi : ∀ c, oi.op ≠ .defer c) (hndj : ∀ c, oj.op ≠ .defer c) (hsel : ∀ (j : Nat) (o : Oper) cs b, ops[j]? = some o → o.op ≠ .select cs b)
    (hdj : DstOk n oj.dst sj) (hgj : GdOk n ops oj gj) (hwi : WOk P n oi.op f) (hA : AOk P n oi.op f) (hwj : WOk P n oj.op fj) (hne : Region.ready .any ops listed ≠ []) (hmem : ∀ k ∈ Region.ready .any ops listed, k = i ∨ k = j)
    (hri : Region.ready .any ops (listed.setIfInBounds i true) = [j]) (hrj : Region.ready .any ops (listed.setIfInBounds j true) = [i]) (hij : i ≠ j) (hr : DrOk P n ops fu ((listed.setIfInBounds i true).setIfInBounds j true) tk r) :
    DrOk P n ops (fu + 2) listed tk (dPar f (dOne (notBefore (Region.before ops) tk j) (rMk fj sj gj rNil) (dOne (notBefore (Region.before ops) tk i) (rSet f s rNil) r))) := ⟨fun cf rb fr h x rds kf E R σ a w Ss hcf hrb e hfr H hrd htk => by
  have hdst : DstOk n oi.dst (some s) := .inr ⟨t, s, hdi, ht, rfl, hs⟩
  have hgi' : GdOk n ops oi none := .inl ⟨hgi, rfl⟩
  have hr' : DrOk P n ops fu ((listed.setIfInBounds j true).setIfInBounds i true) tk r := by
    rw [Array.setIfInBounds_comm _ _ (Ne.symm hij)]; exact hr
  have hj1 : DrOk P n ops (fu + 1) (listed.setIfInBounds j true) tk (dOne (notBefore (Region.before ops) tk i) (rMk f (some s) none rNil) r) := ⟨fun cf rb fr h x rds kf E R σ a w Ss hcf hrb e hfr H hrd htk => ⟨fun e1 => (by rw [hrj] at e1; cases e1), fun k hk => by
    rw [hrj] at hk
    simp at hk
    subst hk
    exact dOne_ok hi hdst hgi' hndi hwi hr' hcf hrb e hfr H hrd htk⟩⟩
  obtain ⟨ao0, val0, e1, hA0⟩ := hA.ok cf rb fr h _ e
  rw [hnew_eq] at e1
  refine ⟨fun e2 => absurd e2 hne, fun k hk => ?_⟩
  rcases hmem k hk with rfl | rfl
  case inr => exact dOne_ok hj hdj hgj hndj hwj hj1 hcf hrb e1 hfr H hrd htk
  obtain ⟨ob, gh0, x0, hrun, _⟩ := hA0 σ a hfr
  have g := Grew.alloc w ob
  have s0 := Step.grew H g
  have hfl : ∀ q ∈ Ss.filter (fun s => !bfr (Region.before ops) s.1 k), q ∈ Ss := fun q hq => (List.mem_filter.1 hq).1
  have hrd1 : RdOk σ h (w.alloc ob) rds (Ss.filter fun s => !bfr (Region.before ops) s.1 k) := RdOk.grew H g fun q hq => hrd q (hfl q hq)
  unfold wpD
  rw [hi]
  refine ⟨hndi, .inl ⟨wanted_none hgi, .inl ⟨x0 w.heap.size, w.alloc ob, hrun w oi rfl, ?_⟩⟩⟩
  refine ⟨fun q hq => (hrd1 q hq).elim fun p h => h.elim fun c h => h.2.2.2, fun e2 => (by rw [hri] at e2; cases e2), fun k' hk' => ?_⟩
  rw [hri] at hk'
  simp at hk'
  subst hk'
  -- the other operation, over the world that has the block already
  obtain ⟨t0, nx, lg⟩ := h
  have e3 : rMk fj sj gj rNil cf rb fr ⟨t0, nx, .nil⟩ x (fun fr' h' x' => @Hp.rec (fun _ => Bool) (fun t' nx' lg' => apart rds (notBefore (Region.before ops) tk k') lg' (appL lg' lg fun lg'' => dOne (notBefore (Region.before ops) tk k) (rSet f s rNil) r cf rb fr' ⟨t', nx', lg''⟩ x' rds kf)) h') = true := e1
  have hpin := H.pin ob
  have h0 : wpD P ops k' (Aft P E ((w.heap.size, ob) :: R) σ ⟨t0, nx, .nil⟩ (w.alloc ob) n a.defers fun fr' h' => rNil cf rb fr' h' x fun fr' h' x' => @Hp.rec (fun _ => Bool) (fun t' nx' lg' => apart rds (notBefore (Region.before ops) tk k') lg' (appL lg' lg fun lg'' => dOne (notBefore (Region.before ops) tk k) (rSet f s rNil) r cf rb fr' ⟨t', nx', lg''⟩ x' rds kf)) h') a (w.alloc ob) := by
    unfold wpD
    rw [hj]
    exact one_ok monoW hdj hgj hndj (fun cf rb fr h k E R σ a w q1 q2 q3 q4 q5 => hwj.ok cf rb fr h k E R σ a w oj rfl q1 q2 q3 q4 q5) hcf hrb e3 hfr hpin.lg
  have hput : a.put (some t) (x0 w.heap.size) = a.put oi.dst (x0 w.heap.size) := by rw [hdi]
  refine wpD_ahead (i := k) hj hap (fun cs b => hsel k oi cs b hi) (fun cs b => hsel k' oj cs b hj) h0 fun a' w' hexec hq => ?_
  obtain ⟨fr', h', σ', e4, hf', hst, hdd⟩ := hq
  obtain ⟨t', nx', lg'⟩ := h'
  obtain ⟨e5, hapart⟩ := apart_t (k := appL lg' lg fun lg'' => dOne (notBefore (Region.before ops) tk k) (rSet f s rNil) r cf rb fr' ⟨t', nx', lg''⟩ x rds kf) e4
  rw [appL_eq] at e5
  obtain ⟨new, hnew, hkeep⟩ := hst.log
  have hnew : lg' = new := by
    have : lg' = new.app .nil := hnew
    rwa [L.app_nil] at this
  subst hnew
  have hrd2 : RdOk σ' ⟨t', nx', lg'.app lg⟩ w' rds ((Ss.filter fun s => !bfr (Region.before ops) s.1 k).filter fun s => !bfr (Region.before ops) s.1 k') := fun q hq => by
    rw [List.mem_filter] at hq
    obtain ⟨p, c, h2, h3, h4, h5⟩ := hrd1 q hq.1
    have hna : q.1 ∈ notBefore (Region.before ops) tk k' := by
      unfold notBefore
      rw [List.mem_filter]
      exact ⟨htk q (hfl q hq.1), hq.2⟩
    obtain ⟨h6, h7⟩ := hkeep p _ c h3 h4 (hapart _ _ h2 hna)
    exact ⟨p, c, h2, h6, hst.ext _ _ h4, h7.trans h5⟩
  refine ⟨fun q hq => (hrd2 q hq).elim fun p h => h.elim fun c h => h.2.2.2, ?_⟩
  have hb := (hst.hr.frame (w.heap.size, ob) (List.mem_cons_self ..)).1
  have hfree := (hst.hr.frame (w.heap.size, ob) (List.mem_cons_self ..)).2
  have hst1 := hst.unpin
  have hst2 : Step P E R σ ⟨t0, nx, lg⟩ (w.alloc ob) σ' ⟨t', nx', lg'.app lg⟩ w' := ⟨hst1.ext, hst1.hr.lg, lg', rfl, fun p b c hl hsp hn => hkeep p b c hl hsp hn⟩
  -- the block, named
  obtain ⟨ao, val, e6, hA1⟩ := hA.ok cf rb fr' ⟨t', nx', .nil⟩ _ e5
  rw [hnew_eq] at e6
  obtain ⟨ob', gh, x1, hrun1, hrel⟩ := hA1 σ' a' hf'
  have hsame := hrun1 w oi rfl
  rw [hexec, hrun w oi rfl] at hsame
  have hx : x0 w.heap.size = x1 w.heap.size := by injection hsame with q1 q2; injection q1
  have hob : ob = ob' := by
    injection hsame with q1 q2
    have q3 : w.heap.push ob = w.heap.push ob' := congrArg World.heap q2
    have q4 := congrArg (fun z => z[w.heap.size]?) q3
    simpa using q4
  subst hob
  have hext := hst1.hr.lg (l' := .nil)
  obtain ⟨ho1, ho2⟩ := hrel _ nx' w.heap.size (hext.ext (w.heap.size, gh)) (upS_self _ _ _)
  have s3 := Step.adopt (w' := w') hext hb (fun _ _ => rfl) rfl (fun p c' hl => hfree p c' hl) (fun y hy => Nat.ne_of_lt (H.frame_lt hy)) ho1
  have e7 := hs _ _ _ e6
  have e7 : apart rds (notBefore (Region.before ops) tk k) .nil (appL .nil (lg'.app lg) fun lg'' => r cf rb (fr'.set (val nx') (posOf t)) ⟨((⟨t', nx', .nil⟩ : Hp).new ao).t, ((⟨t', nx', .nil⟩ : Hp).new ao).nx, lg''⟩ x rds kf) = true := e7
  obtain ⟨e8, _⟩ := apart_t e7
  rw [appL_eq] at e8
  obtain ⟨new3, hnew3, hkeep3⟩ := s3.log
  have hnew3 : new3 = .nil := by
    have : (L.nil : L) = new3.app .nil := hnew3
    rw [L.app_nil] at this
    exact this.symm
  subst hnew3
  have s4 : Step P E R σ' ⟨t', nx', lg'.app lg⟩ w' _ ⟨((⟨t', nx', .nil⟩ : Hp).new ao).t, ((⟨t', nx', .nil⟩ : Hp).new ao).nx, lg'.app lg⟩ w' := ⟨s3.ext, s3.hr.lg, .nil, rfl, fun p b c hl hsp hn => hkeep3 p b c hl hsp hn⟩
  have hall := s0.trans (hst2.trans s4)
  have hdd2 : a.defers = (a'.put (some t) (x1 w.heap.size)).defers := hdd.symm
  rw [hx, hdi]
  refine anyD.mono (fun a v hq => Aft.trans hall hq) _ _ _ _ _ ?_
  rw [hdd2]
  exact hr.ok cf rb _ _ x rds kf E R _ _ w' _ hcf (hrb.mono hall.ext) e8 ((hf'.mono s4.ext).put ht ho2) s4.hr (fun q hq => by
    obtain ⟨p, c, h2, h3, h4, h5⟩ := hrd2 q hq
    obtain ⟨h6, h7⟩ := hkeep3 p _ c h3 h4 (fun h => h)
    exact ⟨p, c, h2, h6, s3.ext _ _ h4, h7.trans h5⟩) fun q hq => htk q (hfl q (List.mem_filter.1 hq).1)⟩
/-- a quiet operation, taken first -/
theorem dTake_ok {fu : Nat} {listed : Array Bool} {tk tk' : List Nat} {i : Nat} {o : Oper} {t : Nat} {r : DrF} (ho : ops[i]? = some o) (hdst : o.dst = some t) (ht : t < n) (hnd : ∀ c, o.op ≠ .defer c)
    (hsel : ∀ (j : Nat) (o : Oper) cs b, ops[j]? = some o → o.op ≠ .select cs b) (hc : closed ops listed) (hfree : Region.free .any ops listed i = true) (hi : i ∈ Region.ready .any ops listed)
    (hr : DrOk P n ops fu (listed.setIfInBounds i true) tk' r) (hsub : ∀ j ∈ tk, j ∈ tk')
    {cf : Cf} {rb : RB} {fr : T} {h : Hp} {x : X} {rds rds' : Rd} {kf : KF} {E : Env} {R : List Blk} {σ : Sg} {a : Act} {w : World} {Ss Sn : Sl} {v : V} {x1 : Value} (hcf : CfOk P cf) (hrb : RbOk P rb σ) (hv : Rel σ v x1) (hy : Yld P ops Sn o x1 a) (hSn : holds Sn w) (hSn1 : ∀ s ∈ Sn, s.1 = i ∧ i ∈ tk' ∧ ∃ p c, rds'.has i p ∧ Live h p ∧ σ p = some (s.2.1, c))
    (hrds : ∀ j p, rds.has j p → rds'.has j p) (e : r cf rb (fr.set v (posOf t)) h x rds' kf = true) (hfr : FrOk σ n fr a) (H : HR P E R σ h w) (hrd : RdOk σ h w rds Ss) (htk : ∀ s ∈ Ss, s.1 ∈ tk) :
    anyD P ops (Region.before ops) (Aft P E R σ h w n a.defers fun fr' h' => kf fr' h' x) (fu + 1) listed Ss a w := by
  refine anyD_first ho hsel (fun s hs => (hSn1 s hs).1) fu listed Ss a w hc (Region.free_spec ho hfree) hi hy hSn (fun s hs => (hrd s hs).elim fun p h => h.elim fun c h => h.2.2.2) ?_
  rw [hdst]
  have hdd : a.defers = (a.put (some t) x1).defers := rfl
  rw [hdd]
  refine hr.ok cf rb _ h x rds' kf E R σ _ w _ hcf hrb e (hfr.put ht hv) H (fun s hs => ?_) fun s hs => ?_
  · rcases List.mem_append.1 hs with hs | hs
    · obtain ⟨h1, _, p, c, h2, h3, h4⟩ := hSn1 s hs
      exact ⟨p, c, h1 ▸ h2, h3, h4, hSn s hs⟩
    · obtain ⟨p, c, h1, h2⟩ := hrd s hs
      exact ⟨p, c, hrds _ _ h1, h2⟩
  · rcases List.mem_append.1 hs with hs | hs
    · obtain ⟨h1, h2, _⟩ := hSn1 s hs
      exact h1 ▸ h2
    · exact hsub _ (htk s hs)
end
end Go.Rc
