/- RdA: the statement that ranges over a function. -/
import Derived.Test.YtomgkmoecbnddaaRcZ
set_option linter.unusedVariables false
set_option linter.unusedSimpArgs false
set_option linter.unnecessarySimpa false
namespace Go.Rc
open Go Go.Sym
section
variable {P : Program} {n : Nat}
theorem rfGo_ok {f : Operand} {gf : G} {ps : V} {pl : List Nat} {cac cbd : Code} {ac bd : Den} (hF : GOk n f gf) (hps : PsOk n ps pl) (hac : DenOk P n cac ac) (hbd : DenOk P n cbd bd) {cf : Cf} {rb : RB} (hcf : CfOk P cf)
    {E : Env} {R : List Blk} {σ : Sg} {fr : T} {h : Hp} {x : X} {ks : KS} {a : Act} {w w1 : World} {b : Frame} {kk : List Item} {cs : List Frame} {d : Pos} {db : Nat} {dc : Gh} {mark : List Deferred} (hrb : RbOk P rb σ) (e : rfGo n gf ps ac bd cf rb fr d h x ks = true) (hfr : FrOk σ n fr a) (H : HR P E R σ h w1) (hd : σ d = some (db, dc)) (hx : XOk σ x b.roundOf (mark ++ a.defers))
    (hen : (Instr.enterLoop b.fn a.tmps pl.toArray cac cbd b.roundOf).run P w = .ok (w1.heap.size, mark) (w1.alloc (.loop { state := .ready, pending := none, fn := b.fn, tmps := a.tmps, params := pl.toArray, assign := cac, body := cbd, defers := db }))) :
    Out P E R n ks σ h w1 b kk cs (lone (b.atR a (.code (.rangeFunc f pl.toArray cac cbd) :: kk)) cs w) := by
  unfold rfGo at e
  rw [hnew_eq] at e
  have hext := H.ext (w1.heap.size, Gh.lp n cac cbd)
  have s1 := Step.alloc (c := .lp n cac cbd) (ao := .lp 0 n fr ps d) (ob := .loop { state := .ready, pending := none, fn := b.fn, tmps := a.tmps, params := pl.toArray, assign := cac, body := cbd, defers := db }) H (.lp (s := 0) (tmps := a.tmps) ((hfr.defers []).mono hext) hps (hext _ _ hd))
  obtain ⟨vf, f1, f2⟩ := hF.ex
  have e1 := f1 _ _ e
  have hr := (f2 σ fr a hfr).mono hext
  obtain ⟨tg, _, _, _, g, fs, cl0, hv, e2⟩ := onC_t e1
  rw [hv] at hr
  obtain ⟨h0, e3⟩ := bi_f e2
  have h0 := beq_t h0
  subst h0
  obtain ⟨gi, fl, cl, hfv, rfl, hfl, hcl⟩ := hr.c7
  obtain ⟨q, e4, hq⟩ := appK_t e3
  have hself := upS_self σ h.nx (w1.heap.size, Gh.lp n cac cbd)
  have hargs := hq _ _ _ hfl (.cons (.yl hself) hcl)
  have hrounds := rounds_ok hac hbd hcf (hrb.mono hext) hself
  obtain ⟨gj, hp, hrun, hcall⟩ := hcf _ (posOf gi) q _ _ E R _ _ _ e4 hrounds s1.hr hargs
  obtain rfl := posOf_inj hp
  have hres : (resolve a.eval (rangeCall f w1.heap.size) 0).run P (w1.alloc (.loop { state := .ready, pending := none, fn := b.fn, tmps := a.tmps, params := pl.toArray, assign := cac, body := cbd, defers := db })) = .ok { target := .fn (.func gi) cl.toArray, args := fl.toArray ++ #[.func (.yield w1.heap.size) #[] #[]] } (w1.alloc (.loop { state := .ready, pending := none, fn := b.fn, tmps := a.tmps, params := pl.toArray, assign := cac, body := cbd, defers := db })) := by
    have h1 : resolve a.eval (rangeCall f w1.heap.size) 0 = Deferred.ofValue (a.eval f) #[.func (.yield w1.heap.size) #[] #[]] := by simp [resolve, Act.eval]
    rw [h1, hfv]
    rfl
  have hinv := hrun ((fl.toArray ++ #[.func (.yield w1.heap.size) #[] #[]]) ++ cl.toArray) (w1.alloc (.loop { state := .ready, pending := none, fn := b.fn, tmps := a.tmps, params := pl.toArray, assign := cac, body := cbd, defers := db }))
  have henter := stepR_rangeFunc (P := P) (b := b) (a := a) (k := kk) (cs := cs) (w := w) hen hres hinv
  have hall : (fl.toArray ++ #[Value.func (.yield w1.heap.size) #[] #[]]) ++ cl.toArray = (fl ++ Value.func (.yield w1.heap.size) #[] #[] :: cl).toArray := by simp
  rw [hall] at henter
  obtain ⟨en, w3, frx, ⟨xv, rfl, v, σ2, h2, e5, _, s2⟩, hsteps, hfn, hleave⟩ := hcall (b.atR { a with defers := mark ++ a.defers } (.inRangeFunc w1.heap.size :: kk) :: cs)
  have hsteps : Steps P _ _ := hsteps
  have hback : Steps P (lone (b.atR a (.code (.rangeFunc f pl.toArray cac cbd) :: kk)) cs w) (lone (b.atR { a with defers := mark ++ a.defers } (.endRangeFunc w1.heap.size :: kk)) cs w3) := by
    refine .head henter (Steps.trans hsteps (.one ?_))
    rw [← finish_atR_inRangeFunc w1.heap.size xv]; exact step_leave_returned hleave
  obtain ⟨s, m, tm, ps', d', ha, e6⟩ := onLp_t (hget_t e5)
  have hs2 := s2.ext _ _ hself
  obtain ⟨hlive, tmps', pl', db', dc', fn', rfl, _, _, _, hobj⟩ := s2.hr.lp ha hs2
  have hlt := (Array.getElem?_eq_some_iff.1 hobj).1
  have fin : ∀ (en : Nat) (jump : Option Code), (lstOf s).1 ≠ .busy → (lstOf s).2 = jump → (hput h2 h.nx .z fun h3 => ks en fr h3 x) = true →
      (∀ w4, Steps P (lone (b.atR a (.code (.rangeFunc f pl.toArray cac cbd) :: kk)) cs w) (lone (b.atR { a with defers := mark ++ a.defers } ((jump.map Item.code).toList ++ kk)) cs w4) → Lands P b kk cs { a with defers := mark ++ a.defers } w4 (lone (b.atR a (.code (.rangeFunc f pl.toArray cac cbd) :: kk)) cs w) en) →
      Out P E R m ks σ h w1 b kk cs (lone (b.atR a (.code (.rangeFunc f pl.toArray cac cbd) :: kk)) cs w) := fun en jump hb hj e7 hland => by
    have hend := run_endLoop (P := P) hobj hb
    subst hj
    rw [hput_eq] at e7
    have s3 : Step P E R σ2 h2 w3 σ2 (h2.put h.nx .z) (w3.putObj w1.heap.size (.loop { state := .exhausted, pending := (lstOf s).2, fn := fn', tmps := tmps', params := pl'.toArray, assign := cac, body := cbd, defers := db' })) := Step.put (ao := .z) s2.hr hlive hs2 (World.putObj_heap_same hlt) (fun j hj => World.putObj_heap_other hj) rfl (.inl rfl)
    have sall := s1.trans (s2.trans s3)
    refine ⟨en, fr, _, x, σ2, { a with defers := mark ++ a.defers }, _, e7, (hfr.defers _).mono sall.ext, sall, hx.mono sall.ext, hland _ (Steps.trans hback (.one (stepR_endRangeFunc hend)))⟩
  cases s with
  | zero => exact fin 0 none (by simp [lstOf]) rfl e6 fun w4 hs => hs
  | succ s =>
    cases s with
    | zero => cases e6
    | succ s =>
      cases s with
      | zero => exact fin 0 none (by simp [lstOf]) rfl e6 fun w4 hs => hs
      | succ s =>
        cases s with
        | zero => exact fin 1 (some .ret) (by simp [lstOf]) rfl e6 fun w4 hs => ⟨kk, hs⟩
        | succ id => exact fin (id + 2) (some (.exit id)) (by simp [lstOf]) rfl e6 fun w4 hs => ⟨kk, rfl, hs⟩
theorem rf_ok {f : Operand} {gf : G} {ps : V} {pl : List Nat} {cac cbd : Code} {ac bd : Den} (hF : GOk n f gf) (hps : PsOk n ps pl) (hac : DenOk P n cac ac) (hbd : DenOk P n cbd bd) : DenOk P n (.rangeFunc f pl.toArray cac cbd) (cRf n gf ps ac bd) := ⟨fun cf rb fr h x ks E R σ a w b kk cs hcf hrb e hf H hx hk => by
  obtain ⟨df, rd⟩ := x
  obtain ⟨hdf, hrd⟩ := hx
  cases rd with
  | nil =>
    have e1 : (hnew h (.o 5 0 .h .n) fun d h' => rfGo n gf ps ac bd cf rb fr d h' ⟨.cons d df, .nil⟩ ks) = true := e
    rw [hnew_eq] at e1
    have hro : b.roundOf = none := by
      rcases hrd with ⟨_, h⟩ | ⟨_, _, _, h, _⟩
      · exact h
      · cases h
    have s1 := Step.alloc (c := .c 0) (ao := .o 5 0 .h .n) (ob := .deferred (some [])) H .mark
    have hself := upS_self σ h.nx (w.heap.size, Gh.c 0)
    have hen := run_enterLoop_outer (P := P) (w := w) b.fn a.tmps pl.toArray cac cbd
    have hsz : (w.alloc (.deferred (some []))).heap.size = w.heap.size + 1 := World.size_alloc _ _
    rw [← hsz, ← hro] at hen
    exact Out.steps (Steps.refl _ _) s1 (rfGo_ok hF hps hac hbd hcf (hrb.mono s1.ext) e1 (hf.mono s1.ext) s1.hr hself ⟨.cons hself (hdf.mono s1.ext), .inl ⟨rfl, hro⟩⟩ hen)
  | cons p rest =>
    have e1 : (hget h p fun a => onLp a fun _ _ _ _ d => rfGo n gf ps ac bd cf rb fr d h ⟨df, .cons p rest⟩ ks) = true := e
    obtain ⟨s0, m0, tm0, ps0, d0, ha, e2⟩ := onLp_t (hget_t e1)
    rcases id hrd with ⟨h1, _⟩ | ⟨p', b0, c0, h1, h2, h3⟩
    · cases h1
    · injection h1 with h1 h4
      subst h1 h4
      have hl : Live h p := by unfold Live; rw [ha]; simp
      obtain ⟨b1, c1, ob, h5, h6, h7⟩ := H.live p hl
      rw [h2] at h5
      injection h5 with h5
      injection h5 with h5 h8
      subst h5 h8
      rw [ha] at h7
      cases h7 with
      | lp hf0 hp0 hd0 =>
        have hen := run_enterLoop_inner (P := P) h6 b.fn a.tmps pl.toArray cac cbd
        rw [← h3] at hen
        exact rfGo_ok (mark := []) hF hps hac hbd hcf hrb e2 hf H hd0 ⟨hdf, hrd⟩ hen⟩
end
end Go.Rc
