/- RcP: operations on maps; those that make blocks, and stores. -/
import Derived.Test.YtomgkmoecbnddaaRcO
set_option linter.unusedVariables false
set_option linter.unusedSimpArgs false
set_option linter.unnecessarySimpa false
namespace Go.Rc
open Go Go.Sym
section
variable {P : Program} {n : Nat} {x y z : Operand} {g gx gy gz : G} {t yt : TypeId}
theorem onKey_t {e : Nat} {v : V} {k : Nat → Nat → Bool} (h : onKey e v k = true) : (∃ a d p l r, v = .c 1 a e d p l r ∧ k a e = true) ∨ (∃ a b d p l r, v = .c 6 a b d p l r ∧ e = 8 ∧ k a b = true) := by
  obtain ⟨tg, a, b, d, p, l, r, hv, h1⟩ := onC_t h
  rcases bi_t h1 with ⟨h2, h3⟩ | ⟨h2, h3⟩
  · obtain ⟨h4, h5⟩ := bi_f h3
    rw [beq_t h2, beq_t h4] at hv
    rw [beq_t h4] at h5
    exact .inl ⟨a, d, p, l, r, hv, h5⟩
  · obtain ⟨h4, h5⟩ := bi_f h3
    obtain ⟨h6, h7⟩ := bi_f h5
    rw [beq_t h4] at hv
    exact .inr ⟨a, b, d, p, l, r, hv, beq_t h6, h7⟩
theorem onMap_t {ke : Nat} {v : V} {h : Hp} {k : Pos → V → Bool} (e : onMap ke v h k = true) : ∃ a b d p l r q m, v = .c 5 a b d p l r ∧ h.t.at p = .o 3 ke q m ∧ k p m = true := by
  obtain ⟨tg, a, b, d, p, l, r, hv, e1⟩ := onC_t e
  obtain ⟨h1, e2⟩ := bi_f e1
  obtain ⟨t2, e2', q, m, hat, e3⟩ := onO_t (hget_t e2)
  obtain ⟨h2, e4⟩ := bi_f e3
  obtain ⟨h3, e5⟩ := bi_f e4
  rw [beq_t h1] at hv
  rw [beq_t h2, beq_t h3] at hat
  exact ⟨a, b, d, p, l, r, q, m, hv, hat, e5⟩
/-- the kinds of keys fit -/
def KeyFit (P : Program) (kt : TypeId) (ke : Nat) : Prop := (∃ q, P.underlying kt = some (.int q) ∧ ke = kc q) ∨ (P.underlying kt = some .string ∧ ke = 8)
theorem key_data {σ : Sg} {kt : TypeId} {ke : Nat} (hf : KeyFit P kt ke) {es : Array MapEntry} {clock : Nat} {l : V}
    (hm : (∃ (q : IntKind) (ml : List (Int × Value)), ke = kc q ∧ MapOf (Value.int q) ml es clock ∧ RelM σ q l ml) ∨ (∃ ml : List (ByteArray × Value), ke = 8 ∧ MapOf Value.string ml es clock ∧ RelMS σ l ml))
    {kv : V} {key : Value} (hk : Rel σ kv key) {c : Nat → Nat → Bool} (e : onKey ke kv c = true) :
    ∃ (K : Type) (dk : DecidableEq K) (enc : K → Value) (ml : List (K × Value)) (kk : K) (na nb : Nat), key = enc kk ∧ KeyLaw P kt enc ∧ MapOf enc ml es clock ∧ c na nb = true ∧
      (∀ k f, lookK l na nb k f = true → (∃ v val, lookV ml kk = some val ∧ Rel σ v val ∧ k v = true) ∨ (lookV ml kk = none ∧ f = true)) ∧
      (∀ k v val, Rel σ v val → upK l na nb kv v k = true → ∃ l', k l' = true ∧ ∀ es' c' gh, MapOf enc (putV ml kk val) es' c' → OOk P σ gh (.o 3 ke .h l') (.map es' c')) ∧
      (∀ k, delK l na nb k = true → ∃ l', k l' = true ∧ ∀ es' c' gh, MapOf enc (delV ml kk) es' c' → OOk P σ gh (.o 3 ke .h l') (.map es' c')) := by
  rcases hf with ⟨q, hq, rfl⟩ | ⟨hq, rfl⟩
  · rcases hm with ⟨q', ml, h1, hM, hR⟩ | ⟨ml, h1, _⟩
    · obtain rfl := kc_inj h1
      rcases onKey_t e with ⟨a, d, p, _, _, hv, e2⟩ | ⟨_, _, _, _, _, _, _, h8, _⟩
      · have hk' := hk
        rw [hv] at hk'
        obtain ⟨q2, hkey, hq2, ha⟩ := hk'.c1
        obtain rfl := kc_inj hq2
        have hz : EntK σ q a (kc q) (q.wrap a) := ⟨rfl, ha, rfl⟩
        rw [hkey] at hk
        refine ⟨Int, inferInstance, Value.int q, ml, q.wrap a, a, kc q, hkey, keyLaw_int hq, hM, e2, fun k f => lookM_t hR hz, fun k v val hv2 e3 => ?_, fun k e3 => ?_⟩
        · obtain ⟨l', e4, h4⟩ := upM_t hR hz hk hv2 hM.keys e3
          exact ⟨l', e4, fun es' c' gh hM' => .mapI rfl hM' h4 (.inl rfl)⟩
        · obtain ⟨l', e4, h4⟩ := delM_t hR hz hM.keys e3
          exact ⟨l', e4, fun es' c' gh hM' => .mapI rfl hM' h4 (.inl rfl)⟩
      · exact absurd h8 (kc_lt q)
    · exact absurd h1 (kc_lt q)
  · rcases hm with ⟨q', ml, h1, _⟩ | ⟨ml, _, hM, hR⟩
    · exact absurd h1.symm (kc_lt q')
    · rcases onKey_t e with ⟨a, d, p, _, _, hv, e2⟩ | ⟨a, b, d, p, _, _, hv, _, e2⟩
      · rw [hv] at hk
        obtain ⟨q2, hkey, hq2, ha⟩ := hk.c1
        exact absurd hq2.symm (kc_lt q2)
      · have hk' := hk
        rw [hv] at hk'
        obtain ⟨s, hkey, ha, hb⟩ := hk'.c6
        rw [hkey] at hk
        refine ⟨ByteArray, inferInstance, Value.string, ml, s, a, b, hkey, keyLaw_str hq, hM, e2, fun k f => lookMS_t hR ⟨ha, hb⟩, fun k v val hv2 e3 => ?_, fun k e3 => ?_⟩
        · obtain ⟨l', e4, h4⟩ := upMS_t hR ⟨ha, hb⟩ hk hv2 hM.keys e3
          exact ⟨l', e4, fun es' c' gh hM' => .mapS rfl hM' h4 (.inl rfl)⟩
        · obtain ⟨l', e4, h4⟩ := delMS_t hR ⟨ha, hb⟩ hM.keys e3
          exact ⟨l', e4, fun es' c' gh hM' => .mapS rfl hM' h4 (.inl rfl)⟩
theorem hasK_of {K : Type} [DecidableEq K] {ml : List (K × Value)} {k : K} : Go.Sym.hasK ml k = (lookV ml k).isSome := (lookV_isSome ml k).symm
theorem lk_ok {kt et : TypeId} {ke : Nat} (ht : P.underlying t = some (.map kt et)) (hf : KeyFit P kt ke) (hx : GOk n x gx) (hy : GOk n y gy) {z0 : Value} {zv : V} (hz : zeroVal P et = some z0) (hzv : ∀ σ, Rel σ zv z0) :
    ∃ val, (∀ fr k, gx fr k = true → k (val fr) = true) ∧ QOk P n (.lookup t x y false) (opLk ke zv gx gy) (valRn val) ∧ QOk P n (.lookup t x y true) (opLkOk ke zv gx gy) (valRn val) := by
  obtain ⟨val, x1, x2⟩ := hx.ex
  obtain ⟨vy, y1, y2⟩ := hy.ex
  refine ⟨val, x1, ⟨fun cf rb fr h k E R σ a w e0 hfr H => ?_⟩, ⟨fun cf rb fr h k E R σ a w e0 hfr H => ?_⟩⟩
  · have hr := x2 σ fr a hfr
    obtain ⟨_, _, _, p, _, _, q, m, hv, hat, e1⟩ := onMap_t (x1 _ _ e0)
    rw [hv] at hr
    obtain ⟨bb, c, hxv, hs⟩ := hr.c5
    obtain ⟨b1, c1, es, clock, hl1, hs1, hw1, hm⟩ := H.map hat
    rw [hs] at hs1; injection hs1 with hs1; injection hs1 with hs1 _
    subst hs1
    obtain ⟨K, dk, enc, ml, kk, na, nb, hkey, KL, hM, e2, hlook, _, _⟩ := key_data hf hm (y2 σ fr a hfr) (y1 _ _ e1)
    have fin : ∀ w' (op : Oper), op.op = .lookup t x y false → ReadsSame (valRn val) σ fr h w w' → (execOp a.eval op).run P w' = .ok (.value ((lookV ml kk).getD z0)) w' := fun w' op ho hsame => by
      have hread : w'.heap[bb]? = some (.map es clock) := by rw [hsame p bb c ⟨_, _, _, _, _, _, hv⟩ hl1 hs]; exact hw1
      have := run_look (P := P) (k := kk) false hread hM KL ⟨ht⟩ hz
      simp only [execOp, ho, hxv, hkey]
      rw [Sem.run_bind, this]; rfl
    rcases hlook _ _ e2 with ⟨v, vl, h1, h2, e3⟩ | ⟨h1, e3⟩
    · rw [h1] at fin; exact ⟨v, vl, e3, h2, fin⟩
    · rw [h1] at fin; exact ⟨zv, z0, e3, hzv σ, fin⟩
  · have hr := x2 σ fr a hfr
    obtain ⟨_, _, _, p, _, _, q, m, hv, hat, e1⟩ := onMap_t (x1 _ _ e0)
    rw [hv] at hr
    obtain ⟨bb, c, hxv, hs⟩ := hr.c5
    obtain ⟨b1, c1, es, clock, hl1, hs1, hw1, hm⟩ := H.map hat
    rw [hs] at hs1; injection hs1 with hs1; injection hs1 with hs1 _
    subst hs1
    obtain ⟨K, dk, enc, ml, kk, na, nb, hkey, KL, hM, e2, hlook, _, _⟩ := key_data hf hm (y2 σ fr a hfr) (y1 _ _ e1)
    have fin : ∀ w' (op : Oper), op.op = .lookup t x y true → ReadsSame (valRn val) σ fr h w w' → (execOp a.eval op).run P w' = .ok (.value (.tuple #[(lookV ml kk).getD z0, .bool (lookV ml kk).isSome])) w' := fun w' op ho hsame => by
      have hread : w'.heap[bb]? = some (.map es clock) := by rw [hsame p bb c ⟨_, _, _, _, _, _, hv⟩ hl1 hs]; exact hw1
      have := run_look (P := P) (k := kk) true hread hM KL ⟨ht⟩ hz
      rw [hasK_of] at this
      simp only [execOp, ho, hxv, hkey]
      rw [Sem.run_bind, this]; rfl
    rcases hlook _ _ e2 with ⟨v, vl, h1, h2, e3⟩ | ⟨h1, e3⟩
    · rw [h1] at fin; exact ⟨_, _, e3, .tup (vl := [vl, .bool true]) (.cons h2 (.cons (.tt σ) .nil)), fin⟩
    · rw [h1] at fin; exact ⟨_, _, e3, .tup (vl := [z0, .bool false]) (.cons (hzv σ) (.cons (.ff σ) .nil)), fin⟩
/-! stores into maps -/
theorem run_mapUpdate {K : Type} [dk : DecidableEq K] {enc : K → Value} {l : List (K × Value)} {es : Array MapEntry} {clock m : Nat} {k : K} {v : Value} {kt et : TypeId} {w : World} (hb : w.heap[m]? = some (.map es clock)) (hM : MapOf enc l es clock) (KL : KeyLaw P kt enc) (ht : P.underlying t = some (.map kt et)) :
    ∃ es' c', (Instr.mapUpdate t (.map (some m)) (enc k) v).run P w = .ok () { w with heap := w.heap.setIfInBounds m (.map es' c') } ∧ MapOf enc (putV l k v) es' c' := by
  have hg : (getObj m).run P w = .ok (.map es clock) w := by simp [getObj, Sem.run, hb]
  have hset : ∀ o', (setObj m o').run P w = .ok () { w with heap := w.heap.setIfInBounds m o' } := fun o' => run_setObj hb (by simp)
  cases hi : (l.map (·.1)).idxOf? k with
  | some i =>
    have hil : i < es.size := by
      have h1 := (List.getElem?_eq_some_iff.1 (idxOf?_some hi)).1
      rw [hM.size]; simpa using h1
    have hkey : es[i].key = enc k := by
      have h1 := congrArg (fun x => x[i]?) hM.keyMap
      simp only [List.getElem?_map] at h1
      have h2 := idxOf?_some hi
      rw [List.getElem?_map] at h2
      obtain ⟨p, hp, hpk⟩ := Option.map_eq_some_iff.1 h2
      simp [hil, hp, hpk] at h1
      exact h1
    refine ⟨_, _, ?_, mapOf_put hM (v := v) hi⟩
    simp only [Instr.mapUpdate, Sem.run_bind, run_underlying ht, Result.andThen_ok, hg, KL.check, hM.find KL, hi, Option.bind_some]
    simp [hil, Instr.keyThatStays, hkey, KL.bits, hset]
  | none =>
    refine ⟨_, _, ?_, mapOf_push hM (v := v) hi⟩
    simp only [Instr.mapUpdate, Sem.run_bind, run_underlying ht, Result.andThen_ok, hg, KL.check, hM.find KL, hi, Option.bind_none]
    simp [hset]
theorem run_delete {K : Type} [dk : DecidableEq K] {enc : K → Value} {l : List (K × Value)} {es : Array MapEntry} {clock m : Nat} {k : K} {kt et tk ty : TypeId} {w : World} (hb : w.heap[m]? = some (.map es clock)) (hM : MapOf enc l es clock) (KL : KeyLaw P kt enc) (ht : P.underlying t = some (.map kt et)) :
    ∃ es' c', (Builtin.delete_ #[t, tk] ty #[.map (some m), enc k]).run P w = .ok (.tuple #[]) { w with heap := w.heap.setIfInBounds m (.map es' c') } ∧ MapOf enc (delV l k) es' c' := by
  have hg : (getObj m).run P w = .ok (.map es clock) w := by simp [getObj, Sem.run, hb]
  have hset : ∀ o', (setObj m o').run P w = .ok () { w with heap := w.heap.setIfInBounds m o' } := fun o' => run_setObj hb (by simp)
  cases hi : (l.map (·.1)).idxOf? k with
  | some i =>
    have hil : i < es.size := by
      have h1 := (List.getElem?_eq_some_iff.1 (idxOf?_some hi)).1
      rw [hM.size]; simpa using h1
    refine ⟨es.eraseIdxIfInBounds i, clock, ?_, mapOf_del hM hi⟩
    simp [Builtin.delete_, run_underlying ht, hg, KL.check, hM.find KL, hi, hil, hset]
  | none =>
    refine ⟨es, clock, ?_, by rw [mapOf_del_none hM hi]; exact hM⟩
    simp [Builtin.delete_, run_underlying ht, hg, KL.check, hM.find KL, hi, hset]
theorem heap_set {w : World} {b : Nat} {o o' : Obj} (h : w.heap[b]? = some o) : (w.heap.setIfInBounds b o')[b]? = some o' ∧ ∀ j, j ≠ b → (w.heap.setIfInBounds b o')[j]? = w.heap[j]? := by
  have hlt := (Array.getElem?_eq_some_iff.1 h).1
  exact ⟨by simp [hlt], fun j hj => by simp [Array.getElem?_setIfInBounds_ne (Ne.symm hj)]⟩
theorem mup_ok {kt et : TypeId} {ke : Nat} (ht : P.underlying t = some (.map kt et)) (hf : KeyFit P kt ke) (hx : GOk n x gx) (hy : GOk n y gy) (hz : GOk n z gz) : WOk P n (.mapUpdate t x y z) (opMup ke gx gy gz) ∧ WOk P n (.insert t x y z) (opMup ke gx gy gz) := by
  obtain ⟨vx, x1, x2⟩ := hx.ex
  obtain ⟨vy, y1, y2⟩ := hy.ex
  obtain ⟨vz, z1, z2⟩ := hz.ex
  have key : ∀ cf rb fr h k E R σ a w, opMup ke gx gy gz cf rb fr h k = true → FrOk σ n fr a → HR P E R σ h w → ∃ w', (Instr.mapUpdate t (a.eval x) (a.eval y) (a.eval z)).run P w = .ok () w' ∧ Good P E R σ h w k undef w' := fun cf rb fr h k E R σ a w e0 hfr H => by
    have hr := x2 σ fr a hfr
    obtain ⟨_, _, _, p, _, _, q, m, hv, hat, e1⟩ := onMap_t (x1 _ _ e0)
    rw [hv] at hr
    obtain ⟨bb, c, hxv, hs⟩ := hr.c5
    obtain ⟨b1, c1, es, clock, hl1, hs1, hw1, hm⟩ := H.map hat
    rw [hs] at hs1; injection hs1 with hs1; injection hs1 with hs1 _
    subst hs1
    have e1' := y1 _ _ e1
    obtain ⟨K, dk, enc, ml, kk, na, nb, hkey, KL, hM, e2, _, hup, _⟩ := key_data hf hm (y2 σ fr a hfr) e1'
    have e2' := z1 _ _ e2
    obtain ⟨l', e3, hO⟩ := hup _ _ _ (z2 σ fr a hfr) e2'
    obtain ⟨es', c', hrun, hM'⟩ := run_mapUpdate (P := P) (t := t) (k := kk) (v := a.eval z) hw1 hM KL ht
    rw [hput_eq] at e3
    obtain ⟨h1, h2⟩ := heap_set (o' := .map es' c') hw1
    rw [hxv, hkey]
    exact ⟨_, hrun, _, σ, _, e3, .undef σ, .put H hl1 hs h1 h2 rfl (.inr (hO es' c' _ hM'))⟩
  refine ⟨⟨fun cf rb fr h k E R σ a w o ho _ _ e hf H => ?_⟩, ⟨fun cf rb fr h k E R σ a w o ho _ _ e hf H => ?_⟩⟩
  all_goals
    obtain ⟨w', hrun, hg⟩ := key cf rb fr h k E R σ a w e hf H
    refine .inr (.inl ⟨w', ?_, hg⟩)
    simp only [execOp, ho]
    rw [Sem.run_bind, hrun]; rfl
theorem del_ok {kt et tk : TypeId} {ke : Nat} (ht : P.underlying t = some (.map kt et)) (hf : KeyFit P kt ke) (hx : GOk n x gx) (hy : GOk n y gy) : WOk P n (.call ⟨.builtin .delete, #[x, y], #[t, tk]⟩) (opDel ke gx gy) := ⟨fun cf rb fr h k E R σ a w o ho _ _ e0 hfr H => by
  obtain ⟨vx, x1, x2⟩ := hx.ex
  obtain ⟨vy, y1, y2⟩ := hy.ex
  have hr := x2 σ fr a hfr
  obtain ⟨_, _, _, p, _, _, q, m, hv, hat, e1⟩ := onMap_t (x1 _ _ e0)
  rw [hv] at hr
  obtain ⟨bb, c, hxv, hs⟩ := hr.c5
  obtain ⟨b1, c1, es, clock, hl1, hs1, hw1, hm⟩ := H.map hat
  rw [hs] at hs1; injection hs1 with hs1; injection hs1 with hs1 _
  subst hs1
  have e1' := y1 _ _ e1
  obtain ⟨K, dk, enc, ml, kk, na, nb, hkey, KL, hM, e2, _, _, hdel⟩ := key_data hf hm (y2 σ fr a hfr) e1'
  obtain ⟨l', e3, hO⟩ := hdel _ e2
  obtain ⟨es', c', hrun, hM'⟩ := run_delete (P := P) (t := t) (tk := tk) (ty := o.type) (k := kk) hw1 hM KL ht
  rw [hput_eq] at e3
  obtain ⟨h1, h2⟩ := heap_set (o' := .map es' c') hw1
  refine .inl ⟨_, { w with heap := w.heap.setIfInBounds bb (.map es' c') }, ?_, _, σ, _, e3, .undef σ, .put H hl1 hs h1 h2 rfl (.inr (hO es' c' _ hM'))⟩
  simp [execOp, ho, resolve, hxv, hkey, invoke, builtin, hrun]
  rfl⟩
end
end Go.Rc
