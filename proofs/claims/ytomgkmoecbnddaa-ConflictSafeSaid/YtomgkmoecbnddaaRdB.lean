/- RdB: functions. -/
import Derived.Test.YtomgkmoecbnddaaRdA
set_option linter.unusedVariables false
set_option linter.unusedSimpArgs false
set_option linter.unnecessarySimpa false
namespace Go.Rc
open Go Go.Sym
section
variable {P : Program} {n : Nat}
theorem noDefer_t : True := trivial
theorem denK_t : ∀ (c : Code) {k : Den → Bool}, denK P n c k = true → ∃ d, DenOk P n c d ∧ k d = true
  | .skip, k, h => ⟨_, skip_ok, h⟩
  | .label _, k, h => ⟨_, label_ok, h⟩
  | .region _ ops false, k, h => by
    obtain ⟨r, h1, h2⟩ := regK_t (P := P) (n := n) (ops := ops) (i := 0) (k := fun r => k (cReg r)) (fun j o hj => by rw [Nat.zero_add]; simpa using hj) h
    exact ⟨_, reg_ok h1, h2⟩
  | .region _ ops true, k, h => by
    obtain ⟨h0, h1⟩ := bi_f (b := Region.noSelect ops && noDefer ops.toList && P.follows .mixedOrders) h
    simp only [Bool.and_eq_true] at h0
    rw [natsK_eq] at h1
    obtain ⟨rows, h1, hrows⟩ := rowsK_t h1
    rw [fN_eq] at h1
    obtain ⟨d, h2, h3⟩ := schK_t (P := P) (n := n) (fun j o cs b ho => Region.noSelect_spec h0.1.1 j o cs b ho) hrows ops.size (fun m om _ hl => by
      have : (Array.replicate ops.size false).getD m false = false := by
        by_cases hlt : m < ops.size
        · simp [hlt]
        · simp [hlt]
      rw [this] at hl; cases hl) Msk.init h1
    exact ⟨_, drw_ok h0.2 h2, h3⟩
  | .seq a b, k, h => by
    obtain ⟨d1, h1, h2⟩ := denK_t a (k := fun a => denK P n b fun b => k (cSeq a b)) h
    obtain ⟨d2, h3, h4⟩ := denK_t b h2
    exact ⟨_, seq_ok h1 h3, h4⟩
  | .cond c a b, k, h => by
    obtain ⟨g, h0, h⟩ := opdK_t (x := c) (k := fun c => denK P n a fun a => denK P n b fun b => k (cCond c a b)) h
    obtain ⟨d1, h1, h2⟩ := denK_t a h
    obtain ⟨d2, h3, h4⟩ := denK_t b h2
    exact ⟨_, cond_ok h0 h1 h3, h4⟩
  | .block id a, k, h => by
    have h : fN id (fun id => denK P n a fun a => k (cBlock id a)) = true := h
    rw [fN_eq] at h
    obtain ⟨d1, h1, h2⟩ := denK_t a h
    exact ⟨_, block_ok h1, h2⟩
  | .loop a, k, h => by
    obtain ⟨d1, h1, h2⟩ := denK_t a (k := fun a => k (cLoop loopMax a)) h
    exact ⟨_, loop_ok h1, h2⟩
  | .rangeFunc f ps ac bd, k, h => by
    obtain ⟨g, h0, h⟩ := opdK_t (x := f) (k := fun f => psK n ps.toList fun ps => denK P n ac fun a => denK P n bd fun b => k (cRf n f ps a b)) h
    obtain ⟨pv, hp, h⟩ := psK_t h
    obtain ⟨d1, h1, h2⟩ := denK_t ac h
    obtain ⟨d2, h3, h4⟩ := denK_t bd h2
    exact ⟨_, by simpa using rf_ok h0 hp h1 h3, h4⟩
  | .exit id, k, h => by
    have h : fN id (fun id => k (cExit id)) = true := h
    rw [fN_eq] at h
    exact ⟨_, exit_ok, h⟩
  | .ret, k, h => ⟨_, ret_ok, h⟩
  | .goto _, k, h => by cases h
  | .scope _, k, h => by cases h
  | .refuse _, k, h => by cases h
/-! ### results -/
structure ResOk (P : Program) (n : Nat) (l : List ResultVar) (r : ResF) : Prop where
  ok : ∀ fr h k, r fr h k = true → ∃ q, k q = true ∧ ∀ E R σ a w, FrOk σ n fr a → HR P E R σ h w → ∃ vs, RelL σ q vs ∧ l.length = vs.length ∧ ∀ (i : Nat) r v, l[i]? = some r → vs[i]? = some v → (resOne a.tmps r).run P w = .ok v w
theorem ResOk.cons {x : ResultVar} {l : List ResultVar} {vs : List Value} {v : Value} {tm : Array Value} {w : World} (h1 : (resOne tm x).run P w = .ok v w) (h2 : ∀ (i : Nat) r v, l[i]? = some r → vs[i]? = some v → (resOne tm r).run P w = .ok v w) :
    ∀ (i : Nat) r u, (x :: l)[i]? = some r → (v :: vs)[i]? = some u → (resOne tm r).run P w = .ok u w := fun i r u hr hu => by
  cases i with
  | zero => simp at hr hu; subst hr hu; exact h1
  | succ i => exact h2 i r u (by simpa using hr) (by simpa using hu)
theorem resK_t : ∀ {l : List ResultVar} {k : ResF → Bool}, resK P n l k = true → ∃ r, ResOk P n l r ∧ k r = true
  | [], k, h => ⟨eNil, ⟨fun fr h k e => ⟨.n, e, fun _ _ _ _ _ _ _ => ⟨[], .nil, rfl, fun i r v hr => by simp at hr⟩⟩⟩, h⟩
  | .tmp t :: l, k, h => by
    obtain ⟨h1, h2⟩ := bi_f (b := Nat.blt t n) h
    rw [posK_eq, gPosK_eq] at h2
    obtain ⟨r, h3, h4⟩ := resK_t h2
    refine ⟨_, ⟨fun fr hp k e => ?_⟩, h4⟩
    have e1 := gPos_t _ e
    obtain ⟨q, e2, h5⟩ := h3.ok fr hp _ e1
    refine ⟨_, e2, fun E R σ a w hf H => ?_⟩
    obtain ⟨vs, h6, h7, h8⟩ := h5 E R σ a w hf H
    exact ⟨_, .cons (hf.get t) h6, by simp [h7], ResOk.cons (by simp [resOne]) h8⟩
  | .cell t ty :: l, k, h => by
    obtain ⟨h1, h2⟩ := bi_f (b := Nat.blt t n) h
    rw [posK_eq, gPosK_eq] at h2
    obtain ⟨r, h3, h4⟩ := resK_t h2
    split at h4
    · rename_i hT
      refine ⟨_, ⟨fun fr hp k e => ?_⟩, h4⟩
      have e1 := gPos_t _ e
      obtain ⟨o, b, d, p, l', r', hv, e2⟩ := onPtr_t e1
      obtain ⟨ct, ce, cq, cl, hct, hat, e3⟩ := hcells_t e2
      obtain ⟨v, hk, hn⟩ := nthK_t e3
      obtain ⟨q, e4, h5⟩ := h3.ok fr hp _ hk
      refine ⟨_, e4, fun E R σ a w hf H => ?_⟩
      obtain ⟨vs, h6, h7, h8⟩ := h5 E R σ a w hf H
      have hr := hf.get t
      rw [hv] at hr
      obtain ⟨bb, c, hx, hs⟩ := hr.c2
      obtain ⟨b1, c1, vl0, junk0, _, hs1, hw0, hrl0, _⟩ := H.cells hct hat
      rw [hs] at hs1; injection hs1 with hs1; injection hs1 with hs1 _
      subst hs1
      obtain ⟨z, hz, hzr⟩ := hn σ vl0 hrl0
      have hlt := (List.getElem?_eq_some_iff.1 hz).1
      refine ⟨z :: vs, .cons hzr h6, by simp [h7], ResOk.cons ?_ h8⟩
      simp only [resOne, hx, asAddr, Sem.run_bind, Sem.run_pure, Result.andThen_ok]
      exact run_load1 (P := P) hT hw0 (by rw [List.getElem?_append_left hlt]; exact hz)
    · rename_i m hT
      refine ⟨_, ⟨fun fr hp k e => ?_⟩, h4⟩
      have e1 := gPos_t _ e
      obtain ⟨o, b, d, p, l', r', hv, e2⟩ := onPtr_t e1
      obtain ⟨ct, ce, cq, cl, hct, hat, e3⟩ := hcells_t e2
      obtain ⟨v, hk, hn⟩ := subK_t e3
      obtain ⟨q, e4, h5⟩ := h3.ok fr hp _ hk
      refine ⟨_, e4, fun E R σ a w hf H => ?_⟩
      obtain ⟨vs, h6, h7, h8⟩ := h5 E R σ a w hf H
      have hr := hf.get t
      rw [hv] at hr
      obtain ⟨bb, c, hx, hs⟩ := hr.c2
      obtain ⟨b1, c1, vl0, junk0, _, hs1, hw0, hrl0, _⟩ := H.cells hct hat
      rw [hs] at hs1; injection hs1 with hs1; injection hs1 with hs1 _
      subst hs1
      obtain ⟨hlen, hzr⟩ := hn σ vl0 hrl0
      have hrl : ((vl0.drop o).take m).length = m := by simp; omega
      refine ⟨.agg ((vl0.drop o).take m).toArray :: vs, .cons (.agg hzr) h6, by simp [h7], ResOk.cons ?_ h8⟩
      simp only [resOne, hx, asAddr, Sem.run_bind, Sem.run_pure, Result.andThen_ok]
      refine run_loadN (P := P) (r := (vl0.drop o).take m) hT hw0 (fun j hj => ?_) hrl
      rw [hrl] at hj
      rw [List.getElem?_append_left (by omega), List.getElem?_take_of_lt hj, List.getElem?_drop]
    · cases h4
theorem oneOf_t {l : V} {k : V → Bool} (h : oneOf l k = true) : ∃ v, k v = true ∧ ∀ σ vs, RelL σ l vs → Rel σ v (resVal vs) := by
  rcases onL_t h with ⟨rfl, h1⟩ | ⟨t, a, b, d, p, v, r, rfl, h1⟩
  · exact ⟨_, h1, fun σ vs hr => by rw [hr.n]; exact .tup (vl := []) .nil⟩
  · rcases onL_t h1 with ⟨rfl, h2⟩ | ⟨_, _, _, _, _, _, _, rfl, h2⟩
    · refine ⟨v, h2, fun σ vs hr => ?_⟩
      obtain ⟨u, ul, rfl, h3, h4⟩ := hr.c
      rw [h4.n]; exact h3
    · refine ⟨_, h2, fun σ vs hr => ?_⟩
      have hr0 := hr
      obtain ⟨u, ul, rfl, h3, h4⟩ := hr.c
      obtain ⟨u2, ul2, rfl, _, _⟩ := h4.c
      exact .tup hr0
/-! ### frames -/
theorem setArgs_t {l : V} : ∀ {i : Nat} {t : T} {k : T → Bool}, setArgs l (posOf i) t k = true → ∃ fr, k fr = true ∧ ∀ σ vals, RelL σ l vals → (∀ m, m < i → fr.at (posOf m) = t.at (posOf m)) ∧ (∀ (j : Nat) u, vals[j]? = some u → Rel σ (fr.at (posOf (i + j))) u) ∧ ∀ m, i + vals.length ≤ m → fr.at (posOf m) = t.at (posOf m) := by
  induction l with
  | n => intro i t k h; exact ⟨t, h, fun σ vals hr => by rw [hr.n]; exact ⟨fun _ _ => rfl, fun j u hj => by simp at hj, fun _ _ => rfl⟩⟩
  | c t0 a b d p v r _ ih =>
    intro i t k h
    have h : T.setK v (posOf i) t (fun t' => (posOf i).succK fun q => setArgs r q t' k) = true := h
    rw [T.setK_eq, Pos.succK_eq, posOf_succ] at h
    obtain ⟨fr, h1, h2⟩ := ih h
    refine ⟨fr, h1, fun σ vals hr => ?_⟩
    obtain ⟨u, ul, rfl, h3, h4⟩ := hr.c
    obtain ⟨h5, h6, h7⟩ := h2 σ ul h4
    have hat : ∀ m, (t.set v (posOf i)).at (posOf m) = if i = m then v else t.at (posOf m) := fun m => by
      rw [T.at_set]
      by_cases hm : i = m
      · subst hm; simp
      · rw [if_neg (posOf_ne hm), if_neg hm]
    refine ⟨fun m hm => ?_, fun j u' hj => ?_, fun m hm => ?_⟩
    · rw [h5 m (by omega), hat, if_neg (by omega)]
    · cases j with
      | zero =>
        simp at hj
        subst hj
        rw [Nat.add_zero, h5 i (by omega), hat, if_pos rfl]
        exact h3
      | succ j =>
        have := h6 j u' (by simpa using hj)
        rwa [show i + 1 + j = i + (j + 1) by omega] at this
    · simp at hm
      rw [h7 m (by omega), hat, if_neg (by omega)]
theorem shutK_t {P : Program} {E : Env} {R : List Blk} {σ : Sg} {cs : List Frame} : ∀ {l : L} {h : Hp} {k : Hp → Bool} {w : World} {ds : List Deferred} {fr : Frame}, shutK l h k = true → MarksOk σ l ds → HR P E R σ h w → fr.mode = .returning → fr.defers = ds →
    ∃ h' w', k h' = true ∧ Step P E R σ h w σ h' w' ∧ Steps P (lone fr cs w) (lone { fr with defers := [] } cs w') := by
  intro l
  induction l with
  | nil =>
    intro h k w ds fr e hm H hmode hd
    cases hm
    refine ⟨h, w, e, .refl H, ?_⟩
    rw [← hd]
    exact Steps.refl _ _
  | cons p l ih =>
    intro h k w ds fr e hm H hmode hd
    have e : (hget h p fun a => onO a fun t _ _ _ => bi (Nat.beq t 5) (hput h p .z fun h' => shutK l h' k) false) = true := e
    obtain ⟨t, et, q, lv, ha, e1⟩ := onO_t (hget_t e)
    obtain ⟨h0, e2⟩ := bi_f e1
    have h0 := beq_t h0
    subst h0
    rw [hput_eq] at e2
    cases hm with
    | cons hs hm =>
      rename_i b c ds
      have hl : Live h p := by unfold Live; rw [ha]; simp
      obtain ⟨b', c', ob, h1, h2, h3⟩ := H.live p hl
      rw [hs] at h1
      injection h1 with h1
      injection h1 with h1 _
      subst h1
      rw [ha] at h3
      have hob : ob = .deferred (some []) := by cases h3; rfl
      subst hob
      have htake := run_takeDeferred (P := P) h2
      have s1 : Step P E R σ h w σ (h.put p .z) (w.putObj b (.deferred none)) := .put H hl hs (World.putObj_heap_same (Array.getElem?_eq_some_iff.1 h2).1) (fun j hj => World.putObj_heap_other hj) rfl (.inl rfl)
      have hstep := step_collected (P := P) (fr := fr) (cs := cs) (by rw [hmode]; exact fun h => by cases h) hd rfl htake
      obtain ⟨h', w', e3, s2, hss⟩ := ih (fr := { fr with defers := [] ++ ds }) e2 hm s1.hr hmode rfl
      exact ⟨h', w', e3, s1.trans s2, .head hstep hss⟩
end
end Go.Rc
