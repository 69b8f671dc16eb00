/- RcZ: loops over functions. -/
import Derived.Test.YtomgkmoecbnddaaRcY
import Derived.RangeFuncNested
set_option linter.unusedVariables false
set_option linter.unusedSimpArgs false
set_option linter.unnecessarySimpa false
namespace Go.Rc
open Go Go.Sym
section
variable {P : Program} {n : Nat}
theorem setPs_t {ps : V} : ∀ {args : V} {tm : T} {k : T → Bool}, setPs ps args tm k = true → ∃ fr, k fr = true ∧ ∀ σ (tmps : Array Value) (pl : List Nat) (vals : List Value), PsOk n ps pl → RelL σ args vals → FrOk σ n tm { tmps := tmps, defers := [] } →
    vals.length = pl.length ∧ FrOk σ n fr { tmps := (pl.zip vals).foldl (fun tmps p => tmps.setIfInBounds p.1 p.2) tmps, defers := [] } := by
  induction ps with
  | n =>
    intro args tm k h
    rcases onL_t h with ⟨rfl, h1⟩ | ⟨_, _, _, _, _, _, _, _, h1⟩
    · refine ⟨tm, h1, fun σ tmps pl vals hp hr hf => ?_⟩
      cases hp
      rw [hr.n]
      exact ⟨rfl, hf⟩
    · cases h1
  | c t a b d p l r _ ih =>
    intro args tm k h
    have h : onL args false (fun v q => T.setK v p tm fun t' => setPs r q t' k) = true := h
    rcases onL_t h with ⟨_, h1⟩ | ⟨_, _, _, _, _, v, q, rfl, h1⟩
    · cases h1
    · rw [T.setK_eq] at h1
      obtain ⟨fr, h2, h3⟩ := ih h1
      refine ⟨fr, h2, fun σ tmps pl vals hp hr hf => ?_⟩
      obtain ⟨u, ul, rfl, h4, h5⟩ := hr.c
      cases hp with
      | cons hq hp =>
        rename_i qn qs _
        have hf2 : FrOk σ n (tm.set v (posOf qn)) { tmps := tmps.setIfInBounds qn u, defers := [] } := hf.put hq h4
        obtain ⟨h6, h7⟩ := h3 σ _ qs ul hp h5 hf2
        exact ⟨by simp [h6], h7⟩
theorem psK_t : ∀ {l : List Nat} {k : V → Bool}, psK n l k = true → ∃ ps, PsOk n ps l ∧ k ps = true
  | [], k, h => ⟨.n, .nil, h⟩
  | p :: l, k, h => by
    obtain ⟨h1, h2⟩ := bi_f (b := Nat.blt p n) h
    rw [posK_eq] at h2
    obtain ⟨ps, h3, h4⟩ := psK_t h2
    exact ⟨_, .cons (blt_t h1) h3, h4⟩
/-- the loop that a name stands for -/
theorem HR.lp {E : Env} {R : List Blk} {σ : Sg} {h : Hp} {w : World} (H : HR P E R σ h w) {p : Pos} {s m : Nat} {tm : T} {ps : V} {d : Pos} (ha : h.t.at p = .lp s m tm ps d) {bl : Nat} {ac bd : Code} (hs : σ p = some (bl, .lp n ac bd)) :
    Live h p ∧ ∃ (tmps : Array Value) (pl : List Nat) (db : Nat) (dc : Gh) (fn : FuncId), m = n ∧ FrOk σ n tm { tmps := tmps, defers := [] } ∧ PsOk n ps pl ∧ σ d = some (db, dc) ∧ w.heap[bl]? = some (.loop { state := (lstOf s).1, pending := (lstOf s).2, fn := fn, tmps := tmps, params := pl.toArray, assign := ac, body := bd, defers := db }) := by
  have hl : Live h p := by unfold Live; rw [ha]; simp
  obtain ⟨b, c, ob, h1, h2, h3⟩ := H.live p hl
  rw [hs] at h1
  injection h1 with h1
  injection h1 with h1 h4
  subst h1 h4
  rw [ha] at h3
  cases h3 with
  | lp hf hp hd => exact ⟨hl, _, _, _, _, _, rfl, hf, hp, hd, h2⟩
theorem put_lp {E : Env} {R : List Blk} {σ : Sg} {h : Hp} {w : World} (H : HR P E R σ h w) {p : Pos} (hl : Live h p) {bl : Nat} {ac bd : Code} (hs : σ p = some (bl, .lp n ac bd)) {r : Loop} (hr : w.heap[bl]? = some (.loop r)) {s : Nat} {tm : T} {ps : V} {d : Pos} {tmps : Array Value} {pl : List Nat} {db : Nat} {dc : Gh} {fn : FuncId} (hf : FrOk σ n tm { tmps := tmps, defers := [] }) (hp : PsOk n ps pl) (hd : σ d = some (db, dc)) :
    Step P E R σ h w σ (h.put p (.lp s n tm ps d)) (w.putObj bl (.loop { state := (lstOf s).1, pending := (lstOf s).2, fn := fn, tmps := tmps, params := pl.toArray, assign := ac, body := bd, defers := db })) :=
  .put H hl hs (World.putObj_heap_same (Array.getElem?_eq_some_iff.1 hr).1) (fun j hj => World.putObj_heap_other hj) rfl (.inr (.lp hf hp hd))
theorem rounds_ok {cac cbd : Code} {ac bd : Den} (hac : DenOk P n cac ac) (hbd : DenOk P n cbd bd) {cf : Cf} {rb : RB} (hcf : CfOk P cf) {σ : Sg} (hrb : RbOk P rb σ) {l : Pos} {bl : Nat} (hl : σ l = some (bl, .lp n cac cbd)) : RbOk P (rbIn ac bd cf rb l) σ := fun τ E R p args h k w vals hext e H hargs => by
  rcases bi_t e with ⟨hp, e1⟩ | ⟨_, e1⟩
  · have hp := (Pos.eq_iff _ _).1 hp
    subst hp
    have hs := hext _ _ hl
    refine ⟨bl, _, hl, ?_⟩
    obtain ⟨s, m, tm, ps, d, ha, e2⟩ := onLp_t (hget_t e1)
    obtain ⟨h0, e3⟩ := bi_f e2
    have h0 := beq_t h0
    subst h0
    obtain ⟨hlive, tmps, pl, db, dc, fn, rfl, hf, hps, hd, hobj⟩ := H.lp ha hs
    obtain ⟨fr, e4, h4⟩ := setPs_t (n := m) e3
    obtain ⟨hlen, hfr⟩ := h4 τ tmps pl vals hps hargs hf
    have hy := run_yield (P := P) (args := vals.toArray) hobj (by simpa using hlen)
    have hfold : ((pl.toArray.zip vals.toArray).foldl (fun tmps (x : Nat × Value) => tmps.setIfInBounds x.1 x.2) tmps) = (pl.zip vals).foldl (fun tmps p => tmps.setIfInBounds p.1 p.2) tmps := by
      simp [List.zip_toArray]
    refine ⟨fn, _, cac, cbd, hy, fun c cs => ?_⟩
    let b : Frame := { fn := fn, tmps := #[], todo := [], defers := [], mode := .run, kind := .normal, roundOf := some bl }
    let a0 : Act := { tmps := (pl.zip vals).foldl (fun tmps p => tmps.setIfInBounds p.1 p.2) tmps, defers := [] }
    have hstart : Frame.round bl fn ((pl.toArray.zip vals.toArray).foldl (fun tmps (x : Nat × Value) => tmps.setIfInBounds x.1 x.2) tmps) cac cbd .normal = b.atR a0 [.code cac, .beginRound, .code cbd] := by
      rw [hfold]; rfl
    obtain ⟨e5, fr1, h1, x1, σ1, a1, w1, q1, q2, q3, q4, q5⟩ := hac.ok cf rb fr h _ _ E R τ a0 w b [.beginRound, .code cbd] (c :: cs) hcf (hrb.mono hext) e4 hfr H ⟨.nil, .inr ⟨p, bl, _, rfl, hs, rfl⟩⟩ rfl
    obtain ⟨h5, e6⟩ := bi_f q1
    have h5 := beq_t h5
    subst h5
    obtain ⟨s1, m1, tm1, ps1, d1, ha1, e7⟩ := onLp_t (hget_t e6)
    obtain ⟨h6, e8⟩ := bi_f e7
    have h6 := beq_t h6
    subst h6
    have hs1 := q3.ext _ _ hs
    obtain ⟨hlive1, tmps1, pl1, db1, dc1, fn1, rfl, hf1, hps1, hd1, hobj1⟩ := q3.hr.lp ha1 hs1
    rw [hput_eq] at e8
    have sp := put_lp (s := 1) (fn := fn1) q3.hr hlive1 hs1 hobj1 hf1 hps1 hd1
    have hbegin := run_beginRound (P := P) hobj1 rfl
    obtain ⟨e9, fr2, h2, x2, σ2, a2, w2, r1, r2, r3, r4, r5⟩ := hbd.ok cf rb fr1 _ x1 _ E R σ1 a1 _ b [] (c :: cs) hcf (hrb.mono (hext.trans q3.ext)) e8 q2 sp.hr q4 rfl
    obtain ⟨s3, m3, tm3, ps3, d3, ha3, e10⟩ := onLp_t (hget_t r1)
    obtain ⟨h7, e11⟩ := bi_f e10
    have h7 := beq_t h7
    subst h7
    have hs2 := r3.ext _ _ hs1
    obtain ⟨hlive3, tmps3, pl3, db3, dc3, fn3, rfl, hf3, hps3, hd3, hobj3⟩ := r3.hr.lp ha3 hs2
    have hsteps : Steps P (lone (b.atR a0 [.code cac, .beginRound, .code cbd]) (c :: cs) w) (lone (b.atR a1 [.code cbd]) (c :: cs) (w1.putObj bl (.loop { state := (lstOf 1).1, pending := (lstOf 1).2, fn := fn1, tmps := tmps1, params := pl1.toArray, assign := cac, body := cbd, defers := db1 }))) :=
      Steps.trans q5 (.one (stepR_beginRound rfl hbegin))
    have hall := q3.trans (sp.trans r3)
    obtain ⟨df, rd⟩ := x2
    cases df with
    | cons _ _ => cases e11
    | nil =>
      rw [hstart]
      cases e9 with
      | zero =>
        have e12 : hput h2 p (.lp 0 m3 tm3 ps3 d3) (fun h4 => k vT h4) = true := e11
        rw [hput_eq] at e12
        have sp2 := put_lp (s := 0) (fn := fn3) r3.hr hlive3 hs2 hobj3 hf3 hps3 hd3
        refine ⟨.bool true, _, ⟨vT, σ2, _, e12, .tt _, hall.trans sp2⟩, ?_⟩
        exact Steps.trans hsteps (Steps.trans r5 (.one (stepR_round_end rfl rfl (run_endRound (P := P) none hobj3))))
      | succ e9 =>
        have e12 : hput h2 p (.lp (Nat.add e9 3) m3 tm3 ps3 d3) (fun h4 => k vF h4) = true := e11
        rw [hput_eq] at e12
        have sp2 := put_lp (s := e9 + 3) (fn := fn3) r3.hr hlive3 hs2 hobj3 hf3 hps3 hd3
        refine ⟨.bool false, _, ⟨vF, σ2, _, e12, .ff _, hall.trans sp2⟩, ?_⟩
        cases e9 with
        | zero =>
          obtain ⟨k2, r6⟩ := r5
          exact Steps.trans hsteps (Steps.trans r6 (.one (stepR_round_ret rfl rfl (run_endRound (P := P) (some .ret) hobj3))))
        | succ id =>
          obtain ⟨k2, hx, r6⟩ := r5
          exact Steps.trans hsteps (Steps.trans r6 (.one (stepR_round_exit rfl rfl hx (run_endRound (P := P) (some (.exit id)) hobj3))))
  · exact hrb τ E R p args h k w vals hext e1 H hargs
end
end Go.Rc
