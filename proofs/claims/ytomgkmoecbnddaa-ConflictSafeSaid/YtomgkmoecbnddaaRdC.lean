/- RdC: calls; the whole. -/
import Derived.Test.YtomgkmoecbnddaaRdB
import Derived.RangeFuncLeaves
import Derived.RowKit3
set_option linter.unusedVariables false
set_option linter.unusedSimpArgs false
set_option linter.unnecessarySimpa false
namespace Go.Rc
open Go Go.Sym
section
variable {P : Program} {n : Nat}
noncomputable def FT.at : Pos → FT → Option Fn
  | .h, .node _ f _ => some f
  | .o p, .node l _ _ => FT.at p l
  | .o p, .no l _ => FT.at p l
  | .i p, .node _ _ r => FT.at p r
  | .i p, .no _ r => FT.at p r
  | _, _ => none
theorem FT.getK_t : ∀ (p : Pos) {t : FT} {k : Fn → Bool}, FT.getK p t k = true → ∃ f, FT.at p t = some f ∧ k f = true
  | .h, .node _ f _, k, h => ⟨f, rfl, h⟩
  | .h, .nil, k, h => by cases h
  | .h, .no _ _, k, h => by cases h
  | .o p, .node l _ _, k, h => FT.getK_t p (t := l) h
  | .o p, .no l _, k, h => FT.getK_t p (t := l) h
  | .o _, .nil, k, h => by cases h
  | .i p, .node _ _ r, k, h => FT.getK_t p (t := r) h
  | .i p, .no _ r, k, h => FT.getK_t p (t := r) h
  | .i _, .nil, k, h => by cases h
theorem FT.at_nil (p : Pos) : FT.at p .nil = none := by cases p <;> rfl
theorem FT.setK_t (x : Fn) : ∀ (p : Pos) {t : FT} {k : FT → Bool}, FT.setK x p t k = true → ∃ t', k t' = true ∧ ∀ q f, FT.at q t' = some f → (q = p ∧ f = x) ∨ FT.at q t = some f
  | .h, t, k, h => by
    cases t with
    | nil => exact ⟨_, h, fun q f e => by cases q <;> simp [FT.at, FT.at_nil] at e <;> exact .inl ⟨rfl, e.symm⟩⟩
    | no l r => exact ⟨_, h, fun q f e => by cases q <;> simp [FT.at] at e ⊢ <;> first | exact e.symm | exact e⟩
    | node l g r => exact ⟨_, h, fun q f e => by cases q <;> simp [FT.at] at e ⊢ <;> first | exact .inl e.symm | exact e⟩
  | .o p, t, k, h => by
    cases t with
    | nil =>
      obtain ⟨t', h1, h2⟩ := FT.setK_t x p (t := .nil) (k := fun l' => k (.no l' .nil)) h
      refine ⟨_, h1, fun q f e => ?_⟩
      cases q with
      | h => simp [FT.at] at e
      | o q => exact (h2 q f e).imp (fun ⟨h3, h4⟩ => ⟨by rw [h3], h4⟩) fun h3 => by rw [FT.at_nil] at h3; cases h3
      | i q => simp [FT.at, FT.at_nil] at e
    | no l r =>
      obtain ⟨t', h1, h2⟩ := FT.setK_t x p (t := l) (k := fun l' => k (.no l' r)) h
      refine ⟨_, h1, fun q f e => ?_⟩
      cases q with
      | h => simp [FT.at] at e
      | o q => exact (h2 q f e).imp (fun ⟨h3, h4⟩ => ⟨by rw [h3], h4⟩) id
      | i q => exact .inr e
    | node l g r =>
      obtain ⟨t', h1, h2⟩ := FT.setK_t x p (t := l) (k := fun l' => k (.node l' g r)) h
      refine ⟨_, h1, fun q f e => ?_⟩
      cases q with
      | h => exact .inr e
      | o q => exact (h2 q f e).imp (fun ⟨h3, h4⟩ => ⟨by rw [h3], h4⟩) id
      | i q => exact .inr e
  | .i p, t, k, h => by
    cases t with
    | nil =>
      obtain ⟨t', h1, h2⟩ := FT.setK_t x p (t := .nil) (k := fun r' => k (.no .nil r')) h
      refine ⟨_, h1, fun q f e => ?_⟩
      cases q with
      | h => simp [FT.at] at e
      | i q => exact (h2 q f e).imp (fun ⟨h3, h4⟩ => ⟨by rw [h3], h4⟩) fun h3 => by rw [FT.at_nil] at h3; cases h3
      | o q => simp [FT.at, FT.at_nil] at e
    | no l r =>
      obtain ⟨t', h1, h2⟩ := FT.setK_t x p (t := r) (k := fun r' => k (.no l r')) h
      refine ⟨_, h1, fun q f e => ?_⟩
      cases q with
      | h => simp [FT.at] at e
      | i q => exact (h2 q f e).imp (fun ⟨h3, h4⟩ => ⟨by rw [h3], h4⟩) id
      | o q => exact .inr e
    | node l g r =>
      obtain ⟨t', h1, h2⟩ := FT.setK_t x p (t := r) (k := fun r' => k (.node l g r')) h
      refine ⟨_, h1, fun q f e => ?_⟩
      cases q with
      | h => exact .inr e
      | i q => exact (h2 q f e).imp (fun ⟨h3, h4⟩ => ⟨by rw [h3], h4⟩) id
      | o q => exact .inr e
/-- what a compiled function must be -/
structure FnOk (P : Program) (gi : Nat) (f : Fn) : Prop where
  ex : ∃ (fn : Func) (c : Code), P.funcs[gi]? = some fn ∧ fn.body = some c ∧ (fn.name == "runtime.NumGoroutine") = false ∧ f.n = fn.ntmps ∧ fn.results.toList.length ≤ 3 ∧ ResOk P fn.ntmps fn.results.toList f.res ∧ DenOk P fn.ntmps c f.body
def FtOk (P : Program) (t : FT) : Prop := ∀ p f, FT.at p t = some f → ∃ gi, p = posOf gi ∧ FnOk P gi f
theorem fnK_t {g : Nat} {k : Fn → Bool} (h : fnK P g k = true) : ∃ f, FnOk P g f ∧ k f = true := by
  unfold fnK at h
  split at h
  · cases h
  · rename_i fn hfn
    split at h
    · cases h
    · rename_i c hc
      obtain ⟨h0, h1⟩ := bi_g h
      obtain ⟨h2, h3⟩ := bi_f h1
      obtain ⟨r, h4, h5⟩ := resK_t h3
      obtain ⟨d, h6, h7⟩ := denK_t c h5
      exact ⟨_, ⟨fn, c, hfn, hc, h0, rfl, ble_t h2, h4, h6⟩, h7⟩
theorem tabK_t : ∀ {l : List Nat} {t : FT} {k : FT → Bool}, FtOk P t → tabK P l t k = true → ∃ t', FtOk P t' ∧ k t' = true
  | [], t, k, ht, h => ⟨t, ht, h⟩
  | g :: l, t, k, ht, h => by
    obtain ⟨f, h1, h2⟩ := fnK_t (k := fun f => posK g fun p => FT.setK f p t fun t' => tabK P l t' k) h
    rw [posK_eq] at h2
    obtain ⟨t', h3, h4⟩ := FT.setK_t f _ h2
    refine tabK_t (fun p f' hp => ?_) h3
    rcases h4 p f' hp with ⟨h5, h6⟩ | h5
    · exact ⟨g, h5, h6 ▸ h1⟩
    · exact ht p f' h5
theorem run_enterF {gi : Nat} {fn : Func} {c : Code} (hf : P.funcs[gi]? = some fn) (hb : fn.body = some c) (hn : (fn.name == "runtime.NumGoroutine") = false) (args : Array Value) (w : World) : (callFunc gi args).run P w = .ok (.enter gi args) w := by
  unfold callFunc
  rw [Sem.run_bind, show (program : Sem Program).run P w = .ok P w from rfl, Result.andThen_ok]
  simp only [hf, hn, hb]
  rfl
/-- what is asked of calls that are not carried out -/
def OrcOk (P : Program) (orc : Orc) : Prop := ∀ g args h k d, orc g args h k d = true → d = true ∨ ∃ gi, g = posOf gi ∧ (∀ args w, (callFunc gi args).run P w = .ok (.enter gi args) w) ∧
  ∀ E R σ w vals, HR P E R σ h w → RelL σ args vals → Calls P gi vals.toArray w fun e w' => ∃ x, e = .returned x ∧ Good P E R σ h w k x w'
/-- an oracle whose value is known ahead, and whose world grows at most -/
theorem orc_grew {gi : Nat} {args : V} {h : Hp} {k : K1} {v : V} (e : k v h = true) (hc : ∀ σ vals, RelL σ args vals → ∃ x, Rel σ v x ∧ ∀ w, Calls P gi vals.toArray w fun e w' => e = .returned x ∧ Grew w w') :
    ∀ E R σ w vals, HR P E R σ h w → RelL σ args vals → Calls P gi vals.toArray w fun e w' => ∃ x, e = .returned x ∧ Good P E R σ h w k x w' := fun E R σ w vals H hv => by
  obtain ⟨x, hx, hc⟩ := hc σ vals hv
  exact (hc w).mono fun e' w' ⟨he, hg⟩ => ⟨x, he, v, σ, h, e, hx, Step.grew H hg⟩
theorem noOrc_ok : OrcOk P noOrc := fun _ _ _ _ _ h => .inl h
theorem orcRest_ok {gr : Nat} {fn : Func} {c : Code} (hf : P.funcs[gr]? = some fn) (hb : fn.body = some c) (hn : (fn.name == "runtime.NumGoroutine") = false)
    (hr : ∀ (z : Int) (m : Nat) (w : World), 0 < m → m < 4294967296 → Calls P gr #[.int .i64 z, .int .i64 m] w fun e w' => e = .returned (.int .i64 (z % (m : Int))) ∧ w'.heap = w.heap ∧ (w'.os, w'.output) = (w.os, w.output)) : OrcOk P (orcRest (posOf gr)) := fun g args h0 k d h => by
  rcases bi_t h with ⟨h0, h1⟩ | ⟨_, h1⟩
  · have h0 := (Pos.eq_iff _ _).1 h0
    subst h0
    rcases onL_t h1 with ⟨_, h2⟩ | ⟨t0, a0, b0, d0, p0, v, l, rfl, h2⟩
    · exact .inl h2
    · obtain ⟨t, m, r, d1, p1, l1, r1, rfl, h3⟩ := onC_t h2
      rcases bi_t h3 with ⟨h4, h5⟩ | ⟨_, h5⟩
      · have h4 := beq_t h4
        subst h4
        rcases onL_t h5 with ⟨_, h6⟩ | ⟨t2, a2, b2, d2, p2, u, l2, rfl, h6⟩
        · cases h6
        · rcases onL_t h6 with ⟨rfl, h6⟩ | ⟨_, _, _, _, _, _, _, _, h6⟩
          case inr => cases h6
          obtain ⟨cc, d3, p3, l3, r3, rfl, h7⟩ := onInt_t h6
          obtain ⟨h8, h9⟩ := bi_g h7
          obtain ⟨h10, h11⟩ := bi_f h9
          obtain ⟨h12, h13⟩ := bi_f h11
          rw [fN_eq] at h13
          have h8 := beq_f h8
          have h10 : cc < 4294967296 := blt_t h10
          have h12 : m % cc = 0 := beq_t h12
          refine .inr ⟨gr, rfl, run_enterF hf hb hn, orc_grew h13 fun σ vals hv => ?_⟩
          obtain ⟨x1, xl, rfl, hx1, hxl⟩ := hv.c
          obtain ⟨x2, xl2, rfl, hx2, hxl2⟩ := hxl.c
          obtain ⟨z, rfl, hz⟩ := hx1.c16
          obtain ⟨q, rfl, hq, hlt⟩ := hx2.c1
          have hcz : ((cc : Nat) : Int) = (IntKind.i64).wrap cc := by
            rw [wrap_small (q := .i64) (by show cc < 9223372036854775808; omega)]
          have hqk : q = .i64 := kc_inj (q' := .i64) hq.symm
          subst hqk
          rw [← hcz, hxl2.n]
          refine ⟨.int .i64 (z % (cc : Int)), ?_, fun w => (hr z cc w (by omega) h10).mono fun e w' ⟨h, h2, h3⟩ => ⟨h, .of_same h2 h3⟩⟩
          have hmod : z % (cc : Int) = ((r % cc : Nat) : Int) := by
            have hd : ((cc : Nat) : Int) ∣ ((m : Nat) : Int) := Int.natCast_dvd_natCast.2 (Nat.dvd_of_mod_eq_zero h12)
            rw [← Int.emod_emod_of_dvd z hd, hz]; rfl
          rw [hmod]
          have hlt : r % cc < cc := Nat.mod_lt _ (by omega)
          exact .int rfl (by show r % cc < 18446744073709551616; omega) (wrap_small (q := .i64) (by show r % cc < 9223372036854775808; omega)).symm
      · exact .inl h5
  · exact .inl h1
theorem cf_ok {orc : Orc} (horc : OrcOk P orc) {fns : FT} (ht : FtOk P fns) : ∀ N, CfOk P (cfN orc fns N)
  | 0 => fun _ _ _ _ _ _ _ _ _ _ e => by cases e
  | N + 1 => fun rb g args h k E R σ w vals e hrb H hargs => by
    have e : orc g args h k (FT.getK g fns fun f => callB f (cfN orc fns N) rb args h k) = true := e
    rcases horc _ _ _ _ _ e with e | ⟨gi, rfl, hrun, hcall⟩
    case inr => exact ⟨gi, rfl, hrun, hcall E R σ w vals H hargs⟩
    obtain ⟨f, hat, e1⟩ := FT.getK_t g e
    obtain ⟨gi, rfl, fn, c, hfn, hc, hname, hn, hlen3, hres, hden⟩ := ht g f hat
    refine ⟨gi, rfl, fun args w => run_enterF hfn hc hname args w, fun cs => ?_⟩
    obtain ⟨n0, res, body⟩ := f
    simp only at hn hres hden
    subst hn
    have e1 : (lenK args 0 fun m => bi (Nat.ble m fn.ntmps) (setArgs args .h .nil fun fr => body (cfN orc fns N) rb fr h ⟨.nil, .nil⟩ fun e fr' h' x' => bi (Nat.ble e 1) (@X.rec (fun _ => Bool) (fun df _ => shutK df h' fun h'' => res fr' h'' fun l => oneOf l fun v => k v h'') x') false) false) = true := e1
    obtain ⟨m, e2, hm⟩ := lenK_t e1
    obtain ⟨h0, e3⟩ := bi_f e2
    have h0 : m ≤ fn.ntmps := ble_t h0
    obtain ⟨fr, e4, hset⟩ := setArgs_t (i := 0) e3
    have hml : m = vals.length := by simpa using hm σ vals hargs
    obtain ⟨_, hs1, hs2⟩ := hset σ vals hargs
    let a0 : Act := { tmps := vals.toArray ++ Array.replicate (fn.ntmps - vals.toArray.size) undef, defers := [] }
    have hfr : FrOk σ fn.ntmps fr a0 := by
      refine ⟨by simp [a0]; omega, fun t => ?_⟩
      by_cases hlt : t < vals.length
      · have := hs1 t vals[t] (by simp [hlt])
        rw [Nat.zero_add] at this
        have e5 : a0.tmps.getD t undef = vals[t] := by simp [a0, Array.getElem?_append, hlt]
        rw [e5]; exact this
      · rw [hs2 t (by omega), T.at_nil]; exact .any
    let b : Frame := { (default : Frame) with fn := gi, kind := .normal, roundOf := none }
    have henter : Frame.enter P gi vals.toArray .normal = b.atR a0 [.code c] := by
      simp [Frame.enter, Frame.atR, hfn, hc, b, a0]
    obtain ⟨en, fr', h', x', σ', a', w', q1, q2, q3, q4, q5⟩ := hden.ok _ rb fr h ⟨.nil, .nil⟩ _ E R σ a0 w b [] cs (cf_ok horc ht N) hrb e4 hfr H ⟨.nil, .inl ⟨rfl, rfl⟩⟩ rfl
    obtain ⟨h1, e5⟩ := bi_f q1
    have h1 : en ≤ 1 := ble_t h1
    obtain ⟨df, rd⟩ := x'
    have e5 : shutK df h' (fun h'' => res fr' h'' fun l => oneOf l fun v => k v h'') = true := e5
    have hret : ∃ k2, Steps P (lone (Frame.enter P gi vals.toArray .normal) cs w) (lone { b.atR a' k2 with mode := .returning } cs w') := by
      rw [henter]
      match en, q5, h1 with
      | 0, q5, _ => exact ⟨[], Steps.trans q5 (.one (stepR_end rfl))⟩
      | 1, ⟨k2, q5⟩, _ => exact ⟨_, Steps.trans q5 (.one (stepR_ret rfl))⟩
      | _ + 2, _, h1 => exact absurd h1 (by omega)
    obtain ⟨k2, hret⟩ := hret
    obtain ⟨h'', w'', e6, s2, hshut⟩ := shutK_t (P := P) (cs := cs) (fr := { b.atR a' k2 with mode := .returning }) e5 q4.df q3.hr rfl rfl
    obtain ⟨q, e7, hq⟩ := hres.ok fr' h'' _ e6
    obtain ⟨v, e8, hv⟩ := oneOf_t e7
    obtain ⟨vs, hvs, hl, hrun⟩ := hq E R σ' a' w'' q2 s2.hr
    refine ⟨.returned (resVal vs), w'', { b.atR a' k2 with mode := .returning, defers := [] }, ⟨_, rfl, v, σ', h'', e8, hv σ' vs hvs, q3.trans s2⟩, Steps.trans hret hshut, rfl, rfl, rfl, rfl, fn, hfn, ?_⟩
    exact run_results (by simp) hlen3 hl hrun
/-- all blocks of a world -/
def allB (w : World) : List Blk := (List.range w.heap.size).filterMap fun i => (w.heap[i]?).map fun o => (i, o)
theorem mem_allB {w : World} {x : Blk} : x ∈ allB w ↔ w.heap[x.1]? = some x.2 := by
  unfold allB
  rw [List.mem_filterMap]
  constructor
  · rintro ⟨i, _, h⟩
    cases ho : w.heap[i]? with
    | none => rw [ho] at h; cases h
    | some o => rw [ho] at h; simp at h; subst h; exact ho
  · intro h
    refine ⟨x.1, List.mem_range.2 (Array.getElem?_eq_some_iff.1 h).1, ?_⟩
    rw [h]; rfl
theorem fin_ok2 {orc : Orc} (horc : OrcOk P orc) {fns : FT} (ht : FtOk P fns) {N g : Nat} {args : V} {vals : List Value} (e1 : (cfN orc fns N noRb (posOf g) args ⟨.nil, .h, .nil⟩ fun v _ => onBool v true false) = true) (hargs : RelL (fun _ => none) args vals) (w : World) :
    Calls P g vals.toArray w fun e w' => e = .returned (.bool true) ∧ Grew w w' := by
  have H : HR P (w.os, w.output) (allB w) (fun _ => none) ⟨.nil, .h, .nil⟩ w := by
    refine ⟨rfl, fun p hl => ?_, fun p q b c c' hl => ?_, fun x hx => ⟨mem_allB.1 hx, fun p c hl => ?_⟩, fun p x e => (by cases e)⟩
    · exact absurd (HT.at_nil p) hl
    · exact absurd (HT.at_nil p) hl
    · exact absurd (HT.at_nil p) hl
  obtain ⟨gi, hp, _, hcall⟩ := cf_ok horc ht N noRb (posOf g) args _ _ _ _ _ w vals e1 (RbOk.no P _) H hargs
  obtain rfl := posOf_inj hp
  refine hcall.mono fun e w' ⟨x, he, v, σ', h', e2, hr, s⟩ => ?_
  refine ⟨?_, ?_⟩
  · obtain ⟨y, b2, d, p, l, r, rfl, h3⟩ := onBool_t e2
    obtain ⟨u, rfl, hu⟩ := hr.c0
    rcases h3 with ⟨h3, _⟩ | ⟨_, h3⟩
    · subst h3
      rw [he]
      cases u
      · cases hu
      · rfl
    · cases h3
  · exact ⟨s.hr.env, fun i o ho => (s.hr.frame (i, o) (mem_allB.2 ho)).1⟩
theorem chk_ok2 {orc : Orc} (horc : OrcOk P orc) {gs : List Nat} {N g : Nat} {args : V} {vals : List Value} (h : chk P orc gs N g args = true) (hargs : RelL (fun _ => none) args vals) (w : World) :
    Calls P g vals.toArray w fun e w' => e = .returned (.bool true) ∧ Grew w w' := by
  obtain ⟨fns, ht, e1⟩ := tabK_t (P := P) (t := .nil) (fun p f hp => by rw [FT.at_nil] at hp; cases hp) h
  rw [posK_eq] at e1
  exact fin_ok2 horc ht e1 hargs w
/-! ### a call without arguments that answers true -/
noncomputable def orcT (p : Pos) : Orc := fun g args h k d => bi (g.eq p) (onL args (k vT h) fun _ _ => d) d
noncomputable def orcC (o1 o2 : Orc) : Orc := fun g args h k d => o1 g args h k (o2 g args h k d)
theorem orcC_ok {o1 o2 : Orc} (h1 : OrcOk P o1) (h2 : OrcOk P o2) : OrcOk P (orcC o1 o2) := fun g args hp k d h => by
  rcases h1 _ _ _ _ _ h with h | h
  · exact h2 _ _ _ _ _ h
  · exact .inr h
theorem orcT_ok {g : Nat} {fn : Func} {c : Code} (hf : P.funcs[g]? = some fn) (hb : fn.body = some c) (hn : (fn.name == "runtime.NumGoroutine") = false)
    (hr : ∀ w : World, Calls P g #[] w fun e w' => e = .returned (.bool true) ∧ Grew w w') : OrcOk P (orcT (posOf g)) := fun g' args hp k d h => by
  rcases bi_t h with ⟨h0, h1⟩ | ⟨_, h1⟩
  · have h0 := (Pos.eq_iff _ _).1 h0
    subst h0
    rcases onL_t h1 with ⟨rfl, h2⟩ | ⟨_, _, _, _, _, _, _, _, h2⟩
    · exact .inr ⟨g, rfl, run_enterF hf hb hn, orc_grew h2 fun σ vals hv => by
        rw [hv.n]
        exact ⟨.bool true, .tt _, hr⟩⟩
    · exact .inl h2
  · exact .inl h1
/-- many calls of one function -/
noncomputable def chkAll (P : Program) (orc : Orc) (gs : List Nat) (fuel g : Nat) (l : List V) : Bool := tabK P gs .nil fun fns => posK g fun p => @List.rec V (fun _ => Bool) true (fun args _ ih => bi (cfN orc fns fuel noRb p args ⟨.nil, .h, .nil⟩ fun v _ => onBool v true false) ih false) l
theorem chkAll_ok2 {orc : Orc} (horc : OrcOk P orc) {gs : List Nat} {N g : Nat} {l : List V} (h : chkAll P orc gs N g l = true) : ∀ args ∈ l, ∀ vals, RelL (fun _ => none) args vals → ∀ w : World, Calls P g vals.toArray w fun e w' => e = .returned (.bool true) ∧ Grew w w' := by
  obtain ⟨fns, ht, e1⟩ := tabK_t (P := P) (t := .nil) (fun p f hp => by rw [FT.at_nil] at hp; cases hp) h
  rw [posK_eq] at e1
  clear h
  induction l with
  | nil => intro args hm; cases hm
  | cons a l ih =>
    intro args hm vals hr w
    obtain ⟨e2, e3⟩ := bi_f e1
    rcases List.mem_cons.1 hm with rfl | hm
    · exact fin_ok2 horc ht e2 hr w
    · exact ih e3 args hm vals hr w
end
end Go.Rc
