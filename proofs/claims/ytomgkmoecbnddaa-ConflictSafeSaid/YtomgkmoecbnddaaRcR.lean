/- RcR: make of slices; calls. -/
import Derived.Test.YtomgkmoecbnddaaRcQ
import Derived.Laws.MakeOwn
set_option linter.unusedVariables false
set_option linter.unusedSimpArgs false
set_option linter.unnecessarySimpa false
namespace Go.Rc
open Go Go.Sym
section
variable {P : Program} {n : Nat} {x y z : Operand} {g gx gy gz : G} {t yt : TypeId}
theorem made_eq (zl : List Value) (s : Nat) (hs : zl.length = s) : ∀ c : Nat, (List.range (c * s)).map (fun i => zl.toArray[i % zl.toArray.size]!) = (List.replicate c zl).flatten
  | 0 => by simp
  | c + 1 => by
    have e1 : (c + 1) * s = s + c * s := by rw [Nat.succ_mul, Nat.add_comm]
    rw [e1, List.range_add, List.map_append, List.map_map, List.replicate_succ, List.flatten_cons]
    congr 1
    · apply List.ext_getElem
      · simp [hs]
      · intro i h1 h2
        simp only [List.getElem_map, List.getElem_range]
        have h3 : i % zl.toArray.size = i := Nat.mod_eq_of_lt (by simpa using h2)
        rw [h3]
        simp [h2]
    · rw [← made_eq zl s hs c]
      apply List.map_congr_left
      intro i _
      show zl.toArray[(s + i) % zl.toArray.size]! = _
      have h3 : (s + i) % zl.toArray.size = i % zl.toArray.size := by
        have : zl.toArray.size = s := by simpa using hs
        rw [this, Nat.add_mod_left]
      rw [h3]
theorem mks_ok {et : TypeId} {ag : Bool} {s by_ : Nat} {zl : List Value} {zv : V} (ht : P.underlying t = some (.slice et)) (hT : tyOf P et = some (ag, s)) (hby : bytesT P et = some by_) (hz : zeroOf P et = some zl) (hzv : ∀ σ, RelL σ zv zl) (hzl : zl.length = s) (hx : GOk n x gx) (hy : GOk n y gy) :
    WOk P n (.makeSlice t x y) (opMks et by_ zv gx gy) := ⟨fun cf rb fr h k E R σ a w op ho _ _ e0 hf H => by
  obtain ⟨i, hi, hib⟩ := run_bytesT hby
  have hi2 : i.size = s ∧ ∃ zv, i.zero = some zv ∧ zv.cells = zl.toArray := by
    constructor
    · have h1 := run_sizeT (P := P) (w := w) hT
      simp [sizeOf, run_info hi] at h1
      exact h1
    · unfold zeroOf at hz
      cases hzz : i.zero with
      | none => simp [hi, hzz] at hz
      | some zv => simp [hi, hzz] at hz; exact ⟨zv, rfl, by rw [← hz]⟩
  obtain ⟨his, zo, hzo, hzc⟩ := hi2
  obtain ⟨vx, x1, x2⟩ := hx.ex
  obtain ⟨vy, y1, y2⟩ := hy.ex
  have e1 := x1 _ _ e0
  have hrx := x2 σ fr a hf
  have hry := y2 σ fr a hf
  obtain ⟨l, kb, _, _, _, _, hv, hi1, hi3, e2⟩ := onNat_t e1
  rw [hv] at hrx
  obtain ⟨ql, hql⟩ := idx_val hrx hi1 hi3
  have e3 := y1 _ _ e2
  obtain ⟨c, kb2, _, _, _, _, hv2, hj1, hj3, e4⟩ := onNat_t e3
  rw [hv2] at hry
  obtain ⟨qc, hqc⟩ := idx_val hry hj1 hj3
  obtain ⟨h1, e5⟩ := bi_f e4
  obtain ⟨h2, e6⟩ := bi_f e5
  obtain ⟨h3, e7⟩ := bi_f e6
  have h1 : l ≤ c := ble_t h1
  have h2 : c ≤ 16777216 := ble_t h2
  have h3 : by_ * c ≤ 16777216 := ble_t h3
  obtain ⟨q, e8, hq⟩ := repK_t e7
  rw [hnew_eq, fN_eq] at e8
  have hb : (i.bytes : Int) * (c : Int) ≤ 281474976710656 := by
    have h : ((by_ * c : Nat) : Int) ≤ 281474976710656 := by omega
    rw [hib]; rwa [Int.natCast_mul] at h
  have hr := run_make (P := P) w t et i zo ht hi hzo ql qc l c (by omega) (by omega) hb (by omega)
  simp only [Int.toNat_natCast] at hr
  have hm : madeCells zo.cells (c * i.size) = (List.replicate c zl).flatten.toArray := by
    rw [hzc, his]
    apply Array.ext'
    rw [← made_eq zl s hzl c]
    simp [madeCells]
  rw [hm] at hr
  refine .inl ⟨.slice (some ⟨w.heap.size, 0, none⟩) l c, w.alloc (.cells (List.replicate c zl).flatten.toArray et), ?_, good_new (gh := .c 0) (val := fun p => vSl p 0 l (Nat.succ c)) H rfl rfl (by rw [hnew_eq]; exact e8) (.cells (hq _ zl (hzv _))) (.sl (upS_self _ _ _) h1 (.inl rfl))⟩
  simp only [execOp, ho, hql, hqc]
  rw [Sem.run_bind, hr]
  rfl⟩
/-! ### calls -/
theorem callG_ok {gi : Nat} {xs : List Operand} {gs : List G} {tys : Array TypeId} (hg : GsOk n xs gs) : WOk P n (.call ⟨.value (.func gi), xs.toArray, tys⟩) (opCallG (posOf gi) gs) := ⟨fun cf rb fr h k E R σ a w op ho hcf hrb e0 hf H => by
  obtain ⟨q, e1, h1⟩ := evsK_t hg e0
  obtain ⟨gj, hp, hrun, hcall⟩ := hcf rb (posOf gi) q h k E R σ w _ e1 hrb H (h1 σ a hf)
  obtain rfl := posOf_inj hp
  refine .inr (.inr ⟨gi, (xs.map a.eval).toArray, w, ?_, hcall⟩)
  simp [execOp, ho, resolve, Act.eval, Deferred.ofValue, invoke, hrun]⟩
theorem call_run {gi : Nat} {f : Operand} {xs : List Operand} {tys : Array TypeId} {a : Act} {fl cl : List Value} {op : Oper} {w : World} (ho : op.op = .call ⟨.value f, xs.toArray, tys⟩) (hv : a.eval f = .func (.func gi) fl.toArray cl.toArray) (hrun : ∀ args w, (callFunc gi args).run P w = .ok (.enter gi args) w) :
    (execOp a.eval op).run P w = .ok (.enter gi (fl ++ (xs.map a.eval ++ cl)).toArray) w := by
  simp [execOp, ho, resolve, hv, Deferred.ofValue, invoke, hrun]
theorem call_ok {f : Operand} {gf : G} {xs : List Operand} {gs : List G} {tys : Array TypeId} (hF : GOk n f gf) (hg : GsOk n xs gs) : OOp P n (.call ⟨.value f, xs.toArray, tys⟩) (opCall gf gs) := ⟨fun cf rb fr h k E R σ a w op ho hcf hrb e0 hf H => by
  obtain ⟨vf, f1, f2⟩ := hF.ex
  have e1 := f1 _ _ e0
  have hr := f2 σ fr a hf
  obtain ⟨q, e2, h1⟩ := evsK_t hg e1
  obtain ⟨tg, _, _, _, p, fs, cs, hv, e3⟩ := onC_t e2
  rw [hv] at hr
  rcases bi_t e3 with ⟨ht, e4⟩ | ⟨ht, e4⟩
  · have ht := beq_t ht
    subst ht
    obtain ⟨gi, fl, cl, hx, rfl, hfl, hcl⟩ := hr.c7
    obtain ⟨q1, e5, h5⟩ := appK_t e4
    obtain ⟨q2, e6, h6⟩ := appK_t e5
    obtain ⟨gj, hp, hrun, hcall⟩ := hcf rb (posOf gi) q2 h k E R σ w _ e6 hrb H (h6 σ _ _ (h5 σ _ _ hfl (h1 σ a hf)) hcl)
    obtain rfl := posOf_inj hp
    refine .inl (.inr (.inr ⟨gi, _, w, call_run ho hx hrun, ?_⟩))
    simpa using hcall
  · obtain ⟨ht, e5⟩ := bi_f e4
    have ht := beq_t ht
    subst ht
    obtain ⟨bb, c, hx, hs⟩ := hr.c8
    obtain ⟨bl, c', hs', g2, tm, ac, bd, hy, hR⟩ := hrb σ E R p q h k w _ (Ext.refl _) e5 H (h1 σ a hf)
    rw [hs] at hs'
    injection hs' with hs'
    injection hs' with hs' _
    subst hs'
    refine .inr ⟨bb, g2, tm, ac, bd, ?_, hR⟩
    have : (xs.toArray.map a.eval) = (xs.map a.eval).toArray := by simp
    simp only [execOp, ho, resolve, hx, Deferred.ofValue, this]
    simp [invoke, hy]⟩
theorem callD_ok {f : Operand} {gf : G} {xs : List Operand} {gs : List G} {tys : Array TypeId} (hF : GOk n f gf) (hg : GsOk n xs gs) : WOk P n (.call ⟨.value f, xs.toArray, tys⟩) (opCallD gf gs) := ⟨fun cf rb fr h k E R σ a w op ho hcf hrb e0 hf H => by
  obtain ⟨vf, f1, f2⟩ := hF.ex
  have e1 := f1 _ _ e0
  have hr := f2 σ fr a hf
  obtain ⟨q, e2, h1⟩ := evsK_t hg e1
  obtain ⟨tg, _, _, _, p, fs, cs, hv, e3⟩ := onC_t e2
  rw [hv] at hr
  obtain ⟨ht, e4⟩ := bi_f e3
  have ht := beq_t ht
  subst ht
  obtain ⟨gi, fl, cl, hx, rfl, hfl, hcl⟩ := hr.c7
  obtain ⟨q1, e5, h5⟩ := appK_t e4
  obtain ⟨q2, e6, h6⟩ := appK_t e5
  obtain ⟨gj, hp, hrun, hcall⟩ := hcf rb (posOf gi) q2 h k E R σ w _ e6 hrb H (h6 σ _ _ (h5 σ _ _ hfl (h1 σ a hf)) hcl)
  obtain rfl := posOf_inj hp
  refine .inr (.inr ⟨gi, _, w, call_run ho hx hrun, ?_⟩)
  simpa using hcall⟩
/-! ### methods -/
theorem run_methOf {ty gi : Nat} {name : String} (h : methOf P ty name = some gi) (v : Value) (fu : Nat) (w : World) : (method (fu + 1) ty v name).run P w = .ok (gi, v) w := by
  unfold methOf at h
  cases hi : P.info? ty with
  | none => rw [hi] at h; cases h
  | some i =>
    rw [hi] at h
    simp only at h
    cases hm : i.methods.find? (·.name == name) with
    | none => rw [hm] at h; cases h
    | some m =>
      rw [hm] at h
      simp only at h
      have hti : (typeInfo ty).run P w = .ok i w := run_info hi
      have hpath : m.path.isEmpty = true → m.path.toList = [] := fun h => by simpa using h
      split at h
      · rename_i hp hf hu
        injection h with h
        subst h
        simp only [method, Sem.run_bind, hti, Result.andThen_ok, hm, hpath hp, follow, Sem.run_pure, hf, receiverAt, run_underlying hu, Place.get]
      · cases h
      · cases h
      · rename_i h1 h2 hp hf hu
        injection h with h
        subst h
        simp only [method, Sem.run_bind, hti, Result.andThen_ok, hm, hpath hp, follow, Sem.run_pure, hf, receiverAt, run_underlying hu, Place.get]
      · cases h
theorem methsK_t {name : String} : ∀ {n : Nat} {k : (Nat → (Pos → Bool) → Bool) → Bool}, methsK P name n k = true → ∃ m, k m = true ∧ ∀ ty k', m ty k' = true → ∃ g, methOf P ty name = some g ∧ k' (posOf g) = true
  | 0, k, h => ⟨mNil, h, fun _ _ h => by cases h⟩
  | t + 1, k, h => by
    unfold methsK at h
    cases hm : methOf P t name with
    | none =>
      rw [hm] at h
      exact methsK_t (n := t) h
    | some g =>
      rw [hm] at h
      simp only at h
      rw [posK_eq, fN_eq] at h
      obtain ⟨m, h1, h2⟩ := methsK_t (n := t) h
      refine ⟨_, h1, fun ty k' h3 => ?_⟩
      rcases bi_t h3 with ⟨h4, h5⟩ | ⟨_, h5⟩
      · exact ⟨g, by rw [← beq_t h4]; exact hm, h5⟩
      · exact h2 ty k' h5
theorem inv_ok {f : Operand} {gf : G} {xs : List Operand} {gs : List G} {tys : Array TypeId} {name : String} {m : Nat → (Pos → Bool) → Bool} (hF : GOk n f gf) (hg : GsOk n xs gs) (hm : ∀ ty k', m ty k' = true → ∃ g, methOf P ty name = some g ∧ k' (posOf g) = true) :
    WOk P n (.call ⟨.invoke f name, xs.toArray, tys⟩) (opInv gf m gs) := ⟨fun cf rb fr h k E R σ a w op ho hcf hrb e0 hf H => by
  obtain ⟨vf, f1, f2⟩ := hF.ex
  have e1 := f1 _ _ e0
  have hr := f2 σ fr a hf
  obtain ⟨q, e2, h1⟩ := evsK_t hg e1
  obtain ⟨tg, ty, _, _, p, u, _, hv, e3⟩ := onC_t e2
  rw [hv] at hr
  obtain ⟨ht, e4⟩ := bi_f e3
  have ht := beq_t ht
  subst ht
  obtain ⟨uv, hx, hu⟩ := hr.c11
  obtain ⟨gi, hmo, e5⟩ := hm _ _ e4
  obtain ⟨gj, hp, hrun, hcall⟩ := hcf rb (posOf gi) _ h k E R σ w _ e5 hrb H (.cons hu (h1 σ a hf))
  obtain rfl := posOf_inj hp
  refine .inr (.inr ⟨gi, _, w, ?_, hcall⟩)
  have e6 := run_methOf hmo uv (P.types.size + 99) w
  have e8 : #[a.eval f] ++ xs.toArray.map a.eval = (Value.iface ty uv :: xs.map a.eval).toArray := by simp [hx]
  have e7 : (Value.iface ty uv :: xs.map a.eval).toArray.extract 1 = (xs.map a.eval).toArray := by
    simp
    rw [List.take_of_length_le (by simp)]
  simp only [execOp, ho, resolve, Sem.run_bind, Sem.run_pure, Result.andThen_ok, e8]
  show (invoke (.fn (.method name) #[]) (Value.iface ty uv :: xs.map a.eval).toArray).run P w = _
  unfold invoke
  simp only [List.getElem?_toArray, List.getElem?_cons_zero, callMethod, Sem.run_bind, e7]
  rw [show (program : Sem Program).run P w = .ok P w from rfl, Result.andThen_ok, show P.types.size + Made.depth = P.types.size + 99 + 1 from rfl, e6, Result.andThen_ok]
  simpa using hrun _ w⟩
/-! ### ranging over a map -/
theorem onIt_t {v : V} {h : Hp} {k : Pos → Nat → Pos → V → Bool} (e : onIt v h k = true) : ∃ b d p l r e' m vis, v = .c 2 0 b d p l r ∧ h.t.at p = .o 4 e' m vis ∧ k p e' m vis = true := by
  obtain ⟨o, b, d, p, l, r, hv, e1⟩ := onPtr_t e
  obtain ⟨h0, e2⟩ := bi_f e1
  obtain ⟨t, e', m, vis, hat, e3⟩ := onO_t (hget_t e2)
  obtain ⟨h1, e4⟩ := bi_f e3
  rw [beq_t h0] at hv
  rw [beq_t h1] at hat
  exact ⟨b, d, p, l, r, e', m, vis, hv, hat, e4⟩
theorem onMk_t {mk p : Pos} {k : Bool} (e : onMk mk p k = true) : mk = .o p ∧ k = true := by
  cases mk with
  | h => cases e
  | i _ => cases e
  | o q =>
    obtain ⟨h1, h2⟩ := bi_f (b := q.eq p) e
    exact ⟨by rw [(Pos.eq_iff _ _).1 h1], h2⟩
theorem hasK_t {q : IntKind} {vis : V} {visl : List Int} (hv : RelVis q vis visl) {a : Nat} (ha : a < kmod q) {t f : Bool} (h : hasK vis a (kc q) t f = true) : (q.wrap a ∈ visl ∧ t = true) ∨ (q.wrap a ∉ visl ∧ f = true) := by
  induction hv with
  | nil => exact .inr ⟨by simp, h⟩
  | cons hb ha' hz _ ih =>
    rename_i a' b' d' p' e' r' z' l' _
    have h : bi (Nat.beq a' a) (bi (Nat.beq b' (kc q)) (onC e' fun _ _ _ _ _ _ v => t) (hasK r' a (kc q) t f)) (hasK r' a (kc q) t f) = true := h
    rcases bi_t h with ⟨h1, h2⟩ | ⟨h1, h2⟩
    · have h1 := beq_t h1
      subst h1
      rcases bi_t h2 with ⟨h3, h4⟩ | ⟨h3, h4⟩
      · obtain ⟨_, _, _, _, _, _, _, _, h5⟩ := onC_t h4
        exact .inl ⟨by rw [hz]; simp, h5⟩
      · exact absurd hb (beq_f h3)
    · have h1 := beq_f h1
      rcases ih h2 with ⟨h3, h4⟩ | ⟨h3, h4⟩
      · exact .inl ⟨List.mem_cons_of_mem _ h3, h4⟩
      · refine .inr ⟨fun hm => ?_, h4⟩
        rcases List.mem_cons.1 hm with hm | hm
        · rw [hz] at hm
          exact h1 (wrap_inj ha' ha hm.symm)
        · exact h3 hm
theorem nextAll_t {σ : Sg} {q : IntKind} {l vis : V} {ml : List (Int × Value)} {visl : List Int} (h : RelM σ q l ml) (hv : RelVis q vis visl) {c : Nat → Nat → V → V → Bool} : ∀ {z : Bool}, nextAll l vis z c = true →
    ((∀ p ∈ ml, p.1 ∈ visl) → z = true) ∧ ∀ p ∈ ml, p.1 ∉ visl → ∃ a kv v, c a (kc q) kv v = true ∧ a < kmod q ∧ p.1 = q.wrap a ∧ Rel σ kv (.int q p.1) ∧ Rel σ v p.2 := by
  induction h with
  | nil => intro z e; exact ⟨fun _ => e, fun p hp => by simp at hp⟩
  | cons hb ha hz hk hv2 _ ih =>
    rename_i a b d p kv v r zz x l' t' a' b' d' p' _
    intro z e
    subst hb
    have e : hasK vis a (kc q) (nextAll r vis z c) (bi (c a (kc q) kv v) (nextAll r vis true c) false) = true := e
    rcases hasK_t hv ha e with ⟨h1, h2⟩ | ⟨h1, h2⟩
    · obtain ⟨h3, h4⟩ := ih h2
      refine ⟨fun hall => h3 fun p hp => hall p (List.mem_cons_of_mem _ hp), fun p hp hn => ?_⟩
      rcases List.mem_cons.1 hp with rfl | hp
      · exact absurd (by rw [← hz] at h1; exact h1) hn
      · exact h4 p hp hn
    · obtain ⟨h3, h5⟩ := bi_f h2
      obtain ⟨_, h4⟩ := ih h5
      refine ⟨fun hall => absurd (by have := hall (zz, x) (List.mem_cons_self ..); rw [hz] at this; exact this) h1, fun p hp hn => ?_⟩
      rcases List.mem_cons.1 hp with rfl | hp
      · exact ⟨a, kv, v, h3, ha, hz, hk, hv2⟩
      · exact h4 p hp hn
theorem rng_ok {kt et : TypeId} {ke : Nat} (hx : GOk n x g) (ht : P.underlying t = some (.map kt et)) (hk : ke < 8) : WOk P n (.range t x) (opRng ke g) := ⟨fun cf rb fr h k E R σ a w o ho _ _ e hfr H => by
  obtain ⟨val, h1, h2⟩ := hx.ex
  have hr := h2 σ fr a hfr
  obtain ⟨_, _, _, p, _, _, q0, m, hv, hat, e2⟩ := onMap_t (h1 _ _ e)
  rw [hv] at hr
  obtain ⟨bb, c, hxv, hs⟩ := hr.c5
  obtain ⟨b, c', es, clock, hl, hs', hw, hm⟩ := H.map hat
  rw [hs] at hs'
  injection hs' with hs'
  injection hs' with hb hc'
  subst hb hc'
  rcases hm with ⟨q, ml, hke, hM, hR⟩ | ⟨ml, h8, _⟩
  case inr => exact absurd hk (by omega)
  rw [hnew_eq, hput_eq] at e2
  have hg : (getObj bb).run P w = .ok (.map es clock) w := by simp [getObj, Sem.run, hw]
  have hext := H.ext (w.heap.size, Gh.it es clock)
  have s1 := Step.alloc (c := .it es clock) (ao := .o 4 ke p .n) (ob := .mapIter (some bb) clock #[] clock) H (.iter hke (hext _ _ hs) (Iter.start hM) .nil (fun _ _ _ _ _ _ _ _ _ _ _ _ _ e => by cases e))
  have hpn : p ≠ h.nx := fun e => by rw [e, H.nx] at hs; cases hs
  have hl1 : Live (h.new (.o 4 ke p .n)) p := by
    unfold Live at hl ⊢
    rw [show (h.new (.o 4 ke p .n)).t.at p = _ from HT.at_set _ _ _ _, if_neg (Ne.symm hpn)]
    exact hl
  have hbw : (w.alloc (.mapIter (some bb) clock #[] clock)).heap[bb]? = some (.map es clock) := by
    rw [alloc_other _ _ _ (Nat.ne_of_lt (Array.getElem?_eq_some_iff.1 hw).1)]; exact hw
  have s2 := Step.put (w' := w.alloc (.mapIter (some bb) clock #[] clock)) (ao := .o 3 ke (.o h.nx) m) s1.hr hl1 (s1.ext _ _ hs) hbw (fun _ _ => rfl) rfl (.inr (.mapI hke hM (hR.mono s1.ext) (.inr (.inl ⟨h.nx, _, rfl, upS_self _ _ _⟩))))
  refine .inl ⟨.pointer (some ⟨w.heap.size, 0, none⟩), w.alloc (.mapIter (some bb) clock #[] clock), ?_, _, _, _, e2, .ptr (upS_self _ _ _), s1.trans s2⟩
  simp only [execOp, ho, hxv, Instr.range, Sem.run_bind, run_underlying ht, Result.andThen_ok, hg, Sem.run_pure]
  rfl⟩
/-- an iterator and its map, that has not turned since -/
theorem HR.iter {E : Env} {R : List Blk} {σ : Sg} {h : Hp} {w : World} (H : HR P E R σ h w) {p m : Pos} {e e2 : Nat} {vis l : V} (ha : h.t.at p = .o 4 e m vis) (hm : h.t.at m = .o 3 e2 (.o p) l) :
    ∃ b mb gm es clock seen visl, ∃ q : IntKind, Live h p ∧ σ p = some (b, .it es clock) ∧ σ m = some (mb, gm) ∧ w.heap[b]? = some (.mapIter (some mb) clock seen clock) ∧ w.heap[mb]? = some (.map es clock) ∧ e = kc q ∧ Iter (Value.int q) es clock seen visl ∧ RelVis q vis visl ∧ CurOk σ vis es seen ∧
      ((∃ (q' : IntKind) (ml : List (Int × Value)), e2 = kc q' ∧ MapOf (Value.int q') ml es clock ∧ RelM σ q' l ml) ∨ (∃ ml : List (ByteArray × Value), e2 = 8 ∧ MapOf Value.string ml es clock ∧ RelMS σ l ml)) := by
  have hl : Live h p := by unfold Live; rw [ha]; simp
  have hlm : Live h m := by unfold Live; rw [hm]; simp
  obtain ⟨b, c, ob, h1, h2, h3⟩ := H.live p hl
  obtain ⟨b', c', ob', h4, h5, h6⟩ := H.live m hlm
  rw [ha] at h3
  rw [hm] at h6
  cases h3 with
  | iter he hs hI hv hc =>
    rw [hs] at h4
    injection h4 with h4
    injection h4 with h4 h7
    subst h4 h7
    have key : ∀ {es' : Array MapEntry} {cl' : Nat}, MkOk σ (.o p) es' cl' → es' = _ ∧ cl' = _ := fun {es' cl'} hk => by
      rcases hk with hk | ⟨q, b2, hq, hk⟩ | ⟨_, _, _, _, hq, _⟩
      · cases hk
      case inr.inr => cases hq
      · injection hq with hq
        subst hq
        rw [h1] at hk
        injection hk with hk
        injection hk with _ hk
        injection hk with k1 k2
        exact ⟨k1.symm, k2.symm⟩
    cases h6 with
    | mapI he2 hM hr hk =>
      obtain ⟨rfl, rfl⟩ := key hk
      exact ⟨b, _, _, _, _, _, _, _, hl, h1, hs, h2, h5, he, hI, hv, hc, .inl ⟨_, _, he2, hM, hr⟩⟩
    | mapS he2 hM hr hk =>
      obtain ⟨rfl, rfl⟩ := key hk
      exact ⟨b, _, _, _, _, _, _, _, hl, h1, hs, h2, h5, he, hI, hv, hc, .inr ⟨_, he2, hM, hr⟩⟩
/-- the next entry: none is left, or one that has not come yet -/
theorem run_next {ty : TypeId} {K : Type} {enc : K → Value} {es : Array MapEntry} {clock : Nat} {l : List (K × Value)} {seen : Array Nat} {vis : List K} {w : World} {b m : Nat} (hb : w.heap[b]? = some (.mapIter (some m) clock seen clock)) (hm : w.heap[m]? = some (.map es clock))
    (hM : MapOf enc l es clock) (hI : Iter enc es clock seen vis) (hinj : ∀ a b, enc a = enc b → a = b) :
    ((∀ p ∈ l, p.1 ∈ vis) ∧ (Instr.next (.pointer (some ⟨b, 0, none⟩)) false ty).run P w = .ok (.tuple #[.bool false]) w) ∨
    ∃ (p : K × Value) (seen' : Array Nat) (w1 : World), p ∈ l ∧ p.1 ∉ vis ∧ Iter enc es clock seen' (p.1 :: vis) ∧ Cur es seen' (enc p.1) p.2 ∧ w1.heap = w.heap ∧ (w1.os, w1.output) = (w.os, w.output) ∧
      (Instr.next (.pointer (some ⟨b, 0, none⟩)) false ty).run P w = .ok (.tuple #[.bool true, enc p.1, p.2]) { w1 with heap := w1.heap.setIfInBounds b (.mapIter (some m) clock seen' clock) } := by
  have hg : (getObj m).run P w = .ok (.map es clock) w := by simp [getObj, Sem.run, hm]
  have hg2 : (getObj b).run P w = .ok (.mapIter (some m) clock seen clock) w := by simp [getObj, Sem.run, hb]
  have hguard : (!seen.isEmpty && !es.isEmpty && es.all (·.born ≥ clock)) = false := by
    cases he : es.isEmpty with
    | true => simp
    | false =>
      have hne : 0 < es.size := by
        rcases Nat.eq_zero_or_pos es.size with h | h
        · simp [Array.isEmpty, h] at he
        · exact h
      have : es.all (·.born ≥ clock) = false := by
        rw [Array.all_eq_false]
        refine ⟨0, hne, ?_⟩
        have := hI.lt es[0] (by simp)
        simp; omega
      simp [this]
  have hleft : ∀ e ∈ (es.filter fun e => !seen.contains e.born), e.born < clock := fun e he => hI.lt e (by have := (Array.mem_filter.1 he).1; simpa using this)
  have hold : ((es.filter fun e => !seen.contains e.born).filter (·.born < clock)) = (es.filter fun e => !seen.contains e.born) := by
    rw [Array.filter_eq_self]; intro e he; simpa using hleft e he
  have hnew : ((es.filter fun e => !seen.contains e.born).filter (·.born ≥ clock)) = #[] := by
    rw [Array.filter_eq_empty_iff]; intro e he; have := hleft e he; simp; omega
  generalize hleftE : (es.filter fun e => !seen.contains e.born) = left at *
  have hmem : ∀ e ∈ left, e ∈ es.toList ∧ e.born ∉ seen := by
    intro e he; rw [← hleftE] at he
    have := Array.mem_filter.1 he
    exact ⟨by simpa using this.1, by simpa using this.2⟩
  cases hle : left.isEmpty with
  | true =>
    have hemp : left = #[] := by simpa using hle
    refine .inl ⟨fun p hp => ?_, ?_⟩
    rotate_left
    · simp only [Instr.next, Sem.run_bind, hg2, Result.andThen_ok, hg, hguard, Bool.false_eq_true, if_false, hleftE, hold, hnew, hle, if_true]
      simp [hemp, choose, Sem.run, Question.forced]
    · obtain ⟨i, hi⟩ := List.getElem?_of_mem hp
      have hge := hM.get i
      rw [hi] at hge
      obtain ⟨e, he, hek⟩ := Option.map_eq_some_iff.1 hge
      have hes : e ∈ es.toList := by simpa using Array.mem_of_getElem? he
      have hseen : e.born ∈ seen := by
        rcases Classical.em (e.born ∈ seen) with h | h
        · exact h
        · have : e ∈ left := by rw [← hleftE]; exact Array.mem_filter.2 ⟨by simpa using hes, by simpa using h⟩
          rw [hemp] at this; simp at this
      obtain ⟨k', hk', hkey⟩ := (hI.vis e hes).1 hseen
      simp only [Prod.mk.injEq] at hek
      have : p.1 = k' := hinj _ _ (hek.1.symm.trans hkey)
      rw [this]; exact hk'
  | false =>
    have hpos : 0 < left.size := by
      rcases Nat.eq_zero_or_pos left.size with h | h
      · simp [Array.isEmpty, h] at hle
      · exact h
    have hch : ∃ j w1, j < left.size ∧ (choose (.mapNext left.size)).run P w = .ok j w1 ∧ w1.heap = w.heap ∧ (w1.os, w1.output) = (w.os, w.output) := by
      by_cases hf : left.size ≤ 1
      · exact ⟨0, w, hpos, by simp [choose, Sem.run, Question.forced, hf], rfl, rfl⟩
      · exact ⟨w.tape w.drawn (.mapNext left.size) % left.size, { w with drawn := w.drawn + 1 }, Nat.mod_lt _ hpos, by simp [choose, Sem.run, Question.forced, hf, Question.cut], rfl, rfl⟩
    obtain ⟨j, w1, hj, hrun, hh1, hh2⟩ := hch
    have hej := hmem left[j] (Array.getElem_mem _)
    obtain ⟨i, hi⟩ := List.getElem?_of_mem hej.1
    have hge := hM.get i
    rw [show es[i]? = some left[j] by simpa using hi] at hge
    obtain ⟨p, hp, hpk⟩ := Option.map_eq_some_iff.1 hge.symm
    simp only [Prod.mk.injEq] at hpk
    have hpl : p ∈ l := List.mem_of_getElem? hp
    have hnv : p.1 ∉ vis := fun hv => hej.2 ((hI.vis _ hej.1).2 ⟨p.1, hv, hpk.1.symm⟩)
    have hI' : Iter enc es clock (seen.push left[j].born) (p.1 :: vis) := by
      refine ⟨hI.lt, fun e he => ?_⟩
      rw [Array.mem_push, hI.vis e he]
      constructor
      · rintro (⟨k, hk, hke⟩ | hb)
        · exact ⟨k, List.mem_cons_of_mem _ hk, hke⟩
        · refine ⟨p.1, List.mem_cons_self, ?_⟩
          have : e = left[j] := by
            obtain ⟨i2, hi2⟩ := List.getElem?_of_mem he
            have h1 : (es.toList.map (·.born))[i2]? = some left[j].born := by rw [List.getElem?_map, hi2]; simp [hb]
            have h2 : (es.toList.map (·.born))[i]? = some left[j].born := by rw [List.getElem?_map, hi]; simp
            have h1' := List.getElem?_eq_some_iff.1 h1
            have h2' := List.getElem?_eq_some_iff.1 h2
            have := (List.getElem_inj (h₀ := h1'.1) (h₁ := h2'.1) hM.born).1 (h1'.2.trans h2'.2.symm)
            subst this
            exact Option.some.inj (hi2.symm.trans hi)
          rw [this]; exact hpk.1.symm
      · rintro ⟨k, hk, hke⟩
        rcases List.mem_cons.1 hk with rfl | hk
        · right
          obtain ⟨i2, hi2⟩ := List.getElem?_of_mem he
          have hge2 := hM.get i2
          rw [show es[i2]? = some e by simpa using hi2] at hge2
          obtain ⟨q, hq, hqk⟩ := Option.map_eq_some_iff.1 hge2.symm
          simp only [Prod.mk.injEq] at hqk
          have hqp : q.1 = p.1 := hinj _ _ (hqk.1.trans hke)
          have h1 : (l.map (·.1))[i2]? = some p.1 := by simp [hq, hqp]
          have h2 : (l.map (·.1))[i]? = some p.1 := by simp [hp]
          have h1' := List.getElem?_eq_some_iff.1 h1
          have h2' := List.getElem?_eq_some_iff.1 h2
          have := (List.getElem_inj (h₀ := h1'.1) (h₁ := h2'.1) hM.keys).1 (h1'.2.trans h2'.2.symm)
          subst this
          rw [Option.some.inj (hi2.symm.trans hi)]
        · left; exact ⟨k, hk, hke⟩
    have hcur : Cur es (seen.push left[j].born) (enc p.1) p.2 := ⟨left[j], hej.1, by simp, hpk.1.symm, hpk.2.symm⟩
    have hb1 : w1.heap[b]? = some (.mapIter (some m) clock seen clock) := by rw [hh1]; exact hb
    have hset := run_setObj (P := P) (o' := .mapIter (some m) clock (seen.push left[j].born) clock) hb1 (by simp)
    refine .inr ⟨p, _, w1, hpl, hnv, hI', hcur, hh1, hh2, ?_⟩
    simp only [Instr.next, Sem.run_bind, hg2, Result.andThen_ok, hg, hguard, Bool.false_eq_true, if_false, hleftE, hold, hnew, hle]
    have hsz : (#[] ++ (left ++ #[]).map some : Array (Option MapEntry)).size = left.size := by simp
    rw [hsz, hrun]
    simp only [Result.andThen_ok]
    have hget : (#[] ++ (left ++ #[]).map some : Array (Option MapEntry))[j]? = some (some left[j]) := by simp [hj]
    rw [hget]
    simp only [Sem.run_bind, hset, Result.andThen_ok, Sem.run_pure]
    rw [hpk.1, hpk.2]
theorem nx_ok (hx : GOk n x g) : WOk P n (.next x false) (opNx g) := ⟨fun cf rb fr h k E R σ a w o ho _ _ e hfr H => by
  obtain ⟨val, h1, h2⟩ := hx.ex
  have hr := h2 σ fr a hfr
  obtain ⟨_, _, p, _, _, e', m, vis, hv, hat, e2⟩ := onIt_t (h1 _ _ e)
  rw [hv] at hr
  obtain ⟨bb, c, hxv, hs⟩ := hr.c2
  obtain ⟨t2, e3, mk, l, hatm, e4⟩ := onO_t (hget_t e2)
  obtain ⟨h3, e5⟩ := bi_f e4
  rw [beq_t h3] at hatm
  obtain ⟨h4, e5⟩ := bi_f e5
  rw [beq_t h4] at hatm
  obtain ⟨rfl, e6⟩ := onMk_t e5
  obtain ⟨b, mb, gm, es, clock, seen, visl, q, hl, hs1, hsm, hb, hm, rfl, hI, hvis, hc, hmap⟩ := H.iter hat hatm
  rw [hs] at hs1
  injection hs1 with hs1
  injection hs1 with hs1 hs2
  subst hs1 hs2
  rcases hmap with ⟨q', ml, hke, hM, hR⟩ | ⟨ml, hke, hM, hR⟩
  · obtain rfl := kc_inj hke
    · skip
      obtain ⟨hnone, hsome⟩ := nextAll_t hR hvis e6
      rcases run_next (P := P) (ty := o.type) hb hm hM hI (fun a b h => by injection h) with ⟨hall, hrun⟩ | ⟨pr, seen', w1, hpl, hnv, hI', hcur, hw1, hw2, hrun⟩
      · refine .inl ⟨_, w, ?_, _, σ, h, hnone hall, .tup (.cons (.ff σ) .nil), .refl H⟩
        simp only [execOp, ho, hxv, Sem.run_bind, hrun, Result.andThen_ok]
        rfl
      · obtain ⟨ka, kv, v, e7, hka, hpz, hkv, hvv⟩ := hsome pr hpl hnv
        rw [hput_eq] at e7
        have hlt := (Array.getElem?_eq_some_iff.1 hb).1
        have s1 := Step.put (w' := { w1 with heap := w1.heap.setIfInBounds bb (.mapIter (some mb) clock seen' clock) }) (ao := .o 4 (kc q) m (vEnt ka (kc q) kv v vis)) H hl hs (ob := .mapIter (some mb) clock seen' clock) (by simp [hw1, hlt]) (fun j hj => by simp [hw1, Array.getElem?_setIfInBounds_ne (Ne.symm hj)]) hw2
          (.inr (.iter rfl hsm hI' (.cons rfl hka hpz hvis) (fun t a b d p t' a' b' d' p' kv' v' r e => by
            have e : V.c 13 ka (kc q) 0 .h (.c 15 0 0 0 .h kv v) vis = _ := e
            injection e with _ _ _ _ _ q1 _
            injection q1 with _ _ _ _ _ q2 q3
            subst q2 q3
            exact ⟨_, _, hkv, hvv, hcur⟩)))
        refine .inl ⟨_, _, ?_, _, σ, _, e7, .tup (.cons (.tt σ) (.cons hkv (.cons hvv .nil))), s1⟩
        simp only [execOp, ho, hxv, Sem.run_bind, hrun, Result.andThen_ok]
        rfl
  · exact absurd hke (kc_lt q)⟩
theorem en_ok (hx : GOk n x g) : WOk P n (.entry x) (opEn g) := ⟨fun cf rb fr h k E R σ a w o ho _ _ e hfr H => by
  obtain ⟨val, h1, h2⟩ := hx.ex
  have hr := h2 σ fr a hfr
  obtain ⟨_, _, p, _, _, e', m, vis, hv, hat, e2⟩ := onIt_t (h1 _ _ e)
  rw [hv] at hr
  obtain ⟨bb, c, hxv, hs⟩ := hr.c2
  rcases onL_t e2 with ⟨_, h0⟩ | ⟨vt, va, vb, vd, vp, ve, vr, rfl, e3⟩
  · cases h0
  obtain ⟨_, _, _, _, _, kv, v, rfl, e4⟩ := onC_t e3
  obtain ⟨t2, e5, mk, l, hatm, e6⟩ := onO_t (hget_t e4)
  obtain ⟨h3, e7⟩ := bi_f e6
  rw [beq_t h3] at hatm
  obtain ⟨rfl, e8⟩ := onMk_t e7
  obtain ⟨b, mb, gm, es, clock, seen, visl, q, hl, hs1, hsm, hb, hm, rfl, hI, hvis, hc, hmap⟩ := H.iter hat hatm
  rw [hs] at hs1
  injection hs1 with hs1
  injection hs1 with hs1 hs2
  subst hs1 hs2
  obtain ⟨kx, vx, hkx, hvx, hcur⟩ := hc _ _ _ _ _ _ _ _ _ _ _ _ _ rfl
  have hborn : (es.toList.map (·.born)).Nodup := by
    rcases hmap with ⟨_, _, _, hM, _⟩ | ⟨_, _, hM, _⟩ <;> exact hM.born
  have hg : (getObj mb).run P w = .ok (.map es clock) w := by simp [getObj, Sem.run, hm]
  have hg2 : (getObj bb).run P w = .ok (.mapIter (some mb) clock seen clock) w := by simp [getObj, Sem.run, hb]
  obtain ⟨en, he, hbk, hk1, hv1⟩ := hcur
  have hfind : es.find? (·.born == en.born) = some en := by
    rw [← Array.find?_toList]
    have key : ∀ (ls : List MapEntry), (ls.map (·.born)).Nodup → en ∈ ls → ls.find? (·.born == en.born) = some en := by
      intro ls
      induction ls with
      | nil => intro _ h; simp at h
      | cons a ls ih =>
        intro hn hm
        rw [List.map_cons, List.nodup_cons] at hn
        rcases List.mem_cons.1 hm with rfl | hm
        · simp
        · have hne : (a.born == en.born) = false := by
            simp; intro hab; exact hn.1 (List.mem_map.2 ⟨en, hm, hab.symm⟩)
          simp [hne, ih hn.2 hm]
    exact key _ hborn he
  refine .inl ⟨.tuple #[kx, vx], w, ?_, _, σ, h, e8, .tup (.cons hkx (.cons hvx .nil)), .refl H⟩
  simp [execOp, ho, hxv, Instr.entry, hg, hg2, hbk, hfind, hk1, hv1]⟩
/-! ### m[k], n[l] = v, w -/
theorem run_mapEntry {K : Type} [DecidableEq K] {kt et : TypeId} {m : Nat} {k : K} {enc : K → Value} {l : List (K × Value)} {es : Array MapEntry} {clock : Nat} {w : World} {z0 : Value} (hb : w.heap[m]? = some (.map es clock)) (hM : MapOf enc l es clock) (KL : KeyLaw P kt enc) (ht : Und P t (.map kt et)) (hz : zeroVal P et = some z0) :
    ∃ es' c' b, (Instr.mapEntry t (.map (some m)) (enc k)).run P w = .ok (.tuple #[(lookV l k).getD z0, .int .i64 (b : Nat)]) { w with heap := w.heap.setIfInBounds m (.map es' c') } ∧ MapOf enc (entV l k z0) es' c' ∧ Stamp enc es' b k ∧ (lookV l k ≠ none → es' = es ∧ c' = clock) := by
  have hg : (getObj m).run P w = .ok (.map es clock) w := by simp [getObj, Sem.run, hb]
  have hset : ∀ o', (setObj m o').run P w = .ok () { w with heap := w.heap.setIfInBounds m o' } := fun o' => run_setObj hb (by simp)
  have hz1 := run_zeroV (P := P) (w := w) hz
  have hv : lookV l k = ((l.map (·.1)).idxOf? k).bind fun i => (es[i]?).map (·.val) := by
    unfold lookV
    cases hi : (l.map (·.1)).idxOf? k with
    | none => rfl
    | some i =>
      have := congrArg (Option.map Prod.snd) (hM.get i)
      simp only [Option.map_map] at this
      simpa [Function.comp_def] using this.symm
  have hs := lookV_isSome l k
  cases hi : (l.map (·.1)).idxOf? k with
  | some i =>
    have hil : i < es.size := by
      have h1 := (List.getElem?_eq_some_iff.1 (idxOf?_some hi)).1
      rw [hM.size]; simpa using h1
    have hkey : es[i].key = enc k := by
      have h1 := congrArg (fun x => x[i]?) hM.keyMap
      simp only [List.getElem?_map] at h1
      have h2 := idxOf?_some hi
      rw [List.getElem?_map] at h2
      obtain ⟨p, hp, hpk⟩ := Option.map_eq_some_iff.1 h2
      simp [hil, hp, hpk] at h1
      exact h1
    have hhas : Go.Sym.hasK l k = true := by rw [← hs, hv, hi]; simp [hil]
    have hent : entV l k z0 = l := by unfold entV; rw [if_pos hhas]
    have hes : (es.modify i fun e => { e with key := es[i].key }) = es := by
      apply Array.ext (by simp)
      intro j h1 h2
      rw [Array.getElem_modify]
      split
      · rename_i hij; subst hij; rfl
      · rfl
    refine ⟨es, clock, es[i].born, ?_, by rw [hent]; exact hM, ⟨es[i], by simp, rfl, hkey⟩, fun _ => ⟨rfl, rfl⟩⟩
    simp only [Instr.mapEntry, Sem.run_bind, run_underlying ht.eq, Result.andThen_ok, hg, KL.check, hM.find KL, hi, Option.bind_some]
    have e1 : (es[i]?) = some es[i] := Array.getElem?_eq_getElem hil
    simp only [e1, Option.map_some, Option.getD_some, Instr.keyThatStays, hkey, KL.bits, if_true]
    rw [hkey] at hes
    rw [hv, hi]
    simp [hes, hset, goInt, hil]
  | none =>
    have hhas : Go.Sym.hasK l k = false := by rw [← hs, hv, hi]; rfl
    have hlook : lookV l k = none := by rw [hv, hi]; rfl
    have hent : entV l k z0 = putV l k z0 := by unfold entV putV; rw [if_neg (by simp [hhas]), if_neg (by simp [hhas])]
    have hpush := mapOf_push (v := z0) hM hi
    rw [← hent] at hpush
    refine ⟨_, _, clock, ?_, hpush, ⟨{ key := enc k, val := z0, born := clock }, by simp, rfl, rfl⟩, fun hn => absurd hlook hn⟩
    simp only [Instr.mapEntry, Sem.run_bind, run_underlying ht.eq, Result.andThen_ok, hg, KL.check, hM.find KL, hi, Option.bind_none, hz1, hset, Sem.run_pure, hlook, Option.getD_none]
    rfl
theorem run_entryStore {K : Type} [DecidableEq K] {m : Nat} {k : K} {enc : K → Value} {l : List (K × Value)} {es : Array MapEntry} {clock : Nat} {w : World} {v : Value} {b : Nat} (hb : w.heap[m]? = some (.map es clock)) (hM : MapOf enc l es clock) (hS : Stamp enc es b k) (hinj : ∀ a b, enc a = enc b → a = b) :
    ∃ es', (Instr.entryStore t (.map (some m)) (.int .i64 b) v).run P w = .ok () { w with heap := w.heap.setIfInBounds m (.map es' clock) } ∧ MapOf enc (putV l k v) es' clock := by
  have hg : (getObj m).run P w = .ok (.map es clock) w := by simp [getObj, Sem.run, hb]
  have hset : ∀ o', (setObj m o').run P w = .ok () { w with heap := w.heap.setIfInBounds m o' } := fun o' => run_setObj hb (by simp)
  obtain ⟨e, he, heb, hek⟩ := hS
  obtain ⟨i, hi⟩ := List.getElem?_of_mem he
  have hi' : es[i]? = some e := by simpa using hi
  have hil : i < es.size := (Array.getElem?_eq_some_iff.1 hi').1
  have hge := hM.get i
  rw [hi'] at hge
  obtain ⟨p, hp, hpk⟩ := Option.map_eq_some_iff.1 hge.symm
  simp only [Prod.mk.injEq] at hpk
  have hpk1 : p.1 = k := hinj _ _ (hpk.1.trans hek)
  have hidx : (l.map (·.1)).idxOf? k = some i := by
    cases hj : (l.map (·.1)).idxOf? k with
    | none => exact absurd (List.mem_map.2 ⟨p, List.mem_of_getElem? hp, hpk1⟩) (idxOf?_none hj)
    | some j =>
      have h1 := idxOf?_some hj
      have h2 : (l.map (·.1))[i]? = some k := by simp [hp, hpk1]
      have h1' := List.getElem?_eq_some_iff.1 h1
      have h2' := List.getElem?_eq_some_iff.1 h2
      rw [(List.getElem_inj (h₀ := h1'.1) (h₁ := h2'.1) hM.keys).1 (h1'.2.trans h2'.2.symm)]
  have hfind : es.findIdx? (fun e => (e.born : Int) == (b : Int)) = some i := by
    rw [Array.findIdx?_eq_some_iff_getElem]
    obtain ⟨h1, h2⟩ := Array.getElem?_eq_some_iff.1 hi'
    refine ⟨hil, by rw [h2, heb]; simp, fun j hj => ?_⟩
    simp only [Bool.not_eq_true, beq_eq_false_iff_ne, ne_eq]
    intro hbj
    have h3 : (es.toList.map (·.born))[j]? = some b := by simp [show j < es.size by omega]; omega
    have h4 : (es.toList.map (·.born))[i]? = some b := by simp [hi', heb]
    have h3' := List.getElem?_eq_some_iff.1 h3
    have h4' := List.getElem?_eq_some_iff.1 h4
    have := (List.getElem_inj (h₀ := h3'.1) (h₁ := h4'.1) hM.born).1 (h3'.2.trans h4'.2.symm)
    omega
  have hput0 := mapOf_put (v := v) hM hidx
  have hes : (es.modify i fun e => { e with key := enc k, val := v }) = (es.modify i fun e => { e with val := v }) := by
    apply Array.ext (by simp)
    intro j h1 h2
    rw [Array.getElem_modify, Array.getElem_modify]
    split
    · rename_i hij
      subst hij
      have := (Array.getElem?_eq_some_iff.1 hi').2
      rw [this, hek]
    · rfl
  have hput : MapOf enc (putV l k v) (es.modify i fun e => { e with val := v }) clock := by rw [← hes]; exact hput0
  refine ⟨_, ?_, hput⟩
  simp only [Instr.entryStore, Sem.run_bind, hg, Result.andThen_ok, asInt, asIntOf, Sem.run_pure, hfind, hset]
theorem KeyLaw.inj {K : Type} [DecidableEq K] {kt : TypeId} {enc : K → Value} (KL : KeyLaw P kt enc) (w : World) : ∀ a b, enc a = enc b → a = b := fun a b h => by
  have h1 := KL.find a [a] [{ key := enc a, val := enc a, born := 0 }] w rfl
  have h2 := KL.find b [a] [{ key := enc a, val := enc a, born := 0 }] w rfl
  rw [← h, h1] at h2
  injection h2 with h2 _
  by_cases hab : a = b
  · exact hab
  · simp [List.idxOf?, List.findIdx?, List.findIdx?.go, hab] at h2
theorem me_ok {kt et : TypeId} {ke : Nat} (ht : P.underlying t = some (.map kt et)) (hf : KeyFit P kt ke) (hx : GOk n x gx) (hy : GOk n y gy) {z0 : Value} {zv : V} (hz : zeroVal P et = some z0) (hzv : ∀ σ, Rel σ zv z0) : WOk P n (.mapEntry t x y) (opMapEnt ke zv gx gy) := ⟨fun cf rb fr h k E R σ a w o ho _ _ e0 hfr H => by
  obtain ⟨vx, x1, x2⟩ := hx.ex
  obtain ⟨vy, y1, y2⟩ := hy.ex
  have hr := x2 σ fr a hfr
  obtain ⟨_, _, _, p, _, _, q, m, hv, hat, e1⟩ := onMap_t (x1 _ _ e0)
  rw [hv] at hr
  obtain ⟨bb, c, hxv, hs⟩ := hr.c5
  obtain ⟨b1, c1, es, clock, hl1, hs1, hw1, hm⟩ := H.map hat
  rw [hs] at hs1; injection hs1 with hs1; injection hs1 with hs1 hc1
  subst hs1 hc1
  have e1' := y1 _ _ e1
  obtain ⟨K, dk, enc, ml, kk, na, nb, hkey, KL, hM, e2, hlook, hup, _⟩ := key_data hf hm (y2 σ fr a hfr) e1'
  have e2 : (h.nx.succK fun nx' => (fun q h1 => lookK m na nb (fun v => hput h1 p (.o 3 ke (.i q) m) fun h2 => k (vTup (vCons v (vCons (vStamp q (vy fr)) .n))) h2) (upK m na nb (vy fr) zv fun l' => hput h1 p (.o 3 ke (.i q) l') fun h2 => k (vTup (vCons zv (vCons (vStamp q (vy fr)) .n))) h2)) h.nx ⟨h.t, nx', h.lg⟩) = true := e2
  rw [Pos.succK_eq] at e2
  obtain ⟨es', c', b, hrun, hM', hst, hsame⟩ := run_mapEntry (P := P) (t := t) (k := kk) hw1 hM KL ⟨ht⟩ hz
  have sn := Step.name H (bb, Gh.ent b (enc kk))
  have hself := upS_self σ h.nx (bb, Gh.ent b (enc kk))
  have hmk : MkOk (upS σ h.nx (bb, Gh.ent b (enc kk))) (.i h.nx) es' c' := .inr (.inr ⟨h.nx, bb, b, enc kk, rfl, hself, hst⟩)
  have hl2 : Live ⟨h.t, h.nx.succ, h.lg⟩ p := hl1
  obtain ⟨h1, h2⟩ := heap_set (o' := .map es' c') hw1
  have hkr : Rel (upS σ h.nx (bb, Gh.ent b (enc kk))) (vy fr) (enc kk) := by have q0 := (y2 σ fr a hfr).mono sn.ext; rw [hkey] at q0; exact q0
  have hexec : (execOp a.eval o).run P w = .ok (.value (.tuple #[(lookV ml kk).getD z0, .int .i64 (b : Nat)])) { w with heap := w.heap.setIfInBounds bb (.map es' c') } := by
    simp only [execOp, ho, hxv, hkey]
    rw [Sem.run_bind, hrun]
    rfl
  have hold : OOk P (upS σ h.nx (bb, Gh.ent b (enc kk))) c (.o 3 ke q m) (.map es clock) := by
    obtain ⟨b', c', ob, g1, g2, g3⟩ := H.live p hl1
    rw [hs] at g1
    injection g1 with g1
    injection g1 with g1 g4
    subst g1 g4
    rw [hw1] at g2
    injection g2 with g2
    subst g2
    rw [hat] at g3
    exact g3.mono sn.ext
  have hfin : ∀ (v : V) (val : Value) (l' : V), Rel σ v val → val = (lookV ml kk).getD z0 → OOk P (upS σ h.nx (bb, Gh.ent b (enc kk))) c (.o 3 ke (.i h.nx) l') (.map es' c') → k (vTup (vCons v (vCons (vStamp h.nx (vy fr)) .n))) ((⟨h.t, h.nx.succ, h.lg⟩ : Hp).put p (.o 3 ke (.i h.nx) l')) = true → OpW P o a w (Good P E R σ h w k) := fun v val l' hv2 hval hO e3 => by
    subst hval
    exact .inl ⟨_, _, hexec, _, _, _, e3, .tup (.cons (hv2.mono sn.ext) (.cons (.stamp hself hkr) .nil)), sn.trans (Step.put sn.hr hl2 (sn.ext _ _ hs) h1 h2 rfl (.inr hO))⟩
  rcases hlook _ _ e2 with ⟨v, val, hl3, hrv, e3⟩ | ⟨hl3, e3⟩
  · rw [hput_eq] at e3
    obtain ⟨rfl, rfl⟩ := hsame (by rw [hl3]; simp)
    exact hfin v val m hrv (by rw [hl3]; rfl) (hold.remark hmk) e3
  · obtain ⟨l', e4, hO⟩ := hup _ _ _ (hzv σ) e3
    rw [hput_eq] at e4
    have hhas : Go.Sym.hasK ml kk = false := by rw [← lookV_isSome, hl3]; rfl
    have hent : entV ml kk z0 = putV ml kk z0 := by unfold entV putV; rw [if_neg (by simp [hhas]), if_neg (by simp [hhas])]
    rw [hent] at hM'
    exact hfin zv z0 l' (hzv σ) (by rw [hl3]; rfl) (((hO es' c' c hM').mono sn.ext).remark hmk) e4⟩
theorem es_ok {kt et : TypeId} {ke : Nat} (ht : P.underlying t = some (.map kt et)) (hf : KeyFit P kt ke) (hx : GOk n x gx) (hy : GOk n y gy) (hz : GOk n z gz) : WOk P n (.entryStore t x y z) (opEntSt ke gx gy gz) := ⟨fun cf rb fr h k E R σ a w o ho _ _ e0 hfr H => by
  obtain ⟨vx, x1, x2⟩ := hx.ex
  obtain ⟨vy, y1, y2⟩ := hy.ex
  obtain ⟨vz, z1, z2⟩ := hz.ex
  have hr := x2 σ fr a hfr
  obtain ⟨tg, _, _, _, p, _, _, hv, e1⟩ := onC_t (x1 _ _ e0)
  obtain ⟨h5, e2⟩ := bi_f e1
  have h5 := beq_t h5
  subst h5
  rw [hv] at hr
  obtain ⟨bb, c, hxv, hs⟩ := hr.c5
  obtain ⟨t2, e', mk, l, hat, e3⟩ := onO_t (hget_t e2)
  obtain ⟨h3, e4⟩ := bi_f e3
  obtain ⟨h4, e5⟩ := bi_f e4
  rw [beq_t h3, beq_t h4] at hat
  obtain ⟨ts, _, _, _, q, kv, _, hvs, e6⟩ := onC_t (y1 _ _ e5)
  obtain ⟨h21, e7⟩ := bi_f e6
  have h21 := beq_t h21
  subst h21
  have hmk : mk = .i q ∧ (onKey ke kv fun a b => gz fr fun v => upK l a b kv v fun l' => hput h p (.o 3 ke .h l') fun h' => k vUndef h') = true := by
    cases mk with
    | h => cases e7
    | o _ => cases e7
    | i q' =>
      obtain ⟨g1, g2⟩ := bi_f (b := q'.eq q) e7
      exact ⟨by rw [(Pos.eq_iff _ _).1 g1], g2⟩
  obtain ⟨rfl, e8⟩ := hmk
  have hrs := y2 σ fr a hfr
  rw [hvs] at hrs
  generalize hyv : a.eval y = yv at hrs
  cases hrs with
  | stamp hσ hkv =>
    rename_i b0 nb0 key
    have hl1 : Live h p := by unfold Live; rw [hat]; simp
    obtain ⟨b1, c1, ob, hs1, hw1, hO1⟩ := H.live p hl1
    rw [hs] at hs1
    injection hs1 with hs1
    injection hs1 with hs1 hc1
    subst hs1 hc1
    rw [hat] at hO1
    have hmap : ∃ es clock, ob = .map es clock ∧ (∃ en ∈ es.toList, en.born = nb0 ∧ en.key = key) ∧ ((∃ (q : IntKind) (ml : List (Int × Value)), ke = kc q ∧ MapOf (Value.int q) ml es clock ∧ RelM σ q l ml) ∨ (∃ ml : List (ByteArray × Value), ke = 8 ∧ MapOf Value.string ml es clock ∧ RelMS σ l ml)) := by
      have key2 : ∀ {es : Array MapEntry} {clock : Nat}, MkOk σ (.i q) es clock → ∃ en ∈ es.toList, en.born = nb0 ∧ en.key = key := fun {es clock} hk => by
        rcases hk with hk | ⟨_, _, hq, _⟩ | ⟨q', b', n', K', hq, hk, hen⟩
        · cases hk
        · cases hq
        · injection hq with hq
          subst hq
          rw [hσ] at hk
          injection hk with hk
          injection hk with _ hk
          injection hk with k1 k2
          subst k1 k2
          exact hen
      cases hO1 with
      | mapI he hM hR hk => exact ⟨_, _, rfl, key2 hk, .inl ⟨_, _, he, hM, hR⟩⟩
      | mapS he hM hR hk => exact ⟨_, _, rfl, key2 hk, .inr ⟨_, he, hM, hR⟩⟩
    obtain ⟨es, clock, rfl, hen, hdata⟩ := hmap
    obtain ⟨K, dk, enc, ml, kk, na, nb, hkey, KL, hM, e9, _, hup, _⟩ := key_data hf hdata hkv e8
    subst hkey
    obtain ⟨l', e10, hO⟩ := hup _ _ _ (z2 σ fr a hfr) (z1 _ _ e9)
    obtain ⟨es', hrun, hM'⟩ := run_entryStore (P := P) (t := t) (k := kk) (v := a.eval z) hw1 hM hen (KeyLaw.inj KL w)
    rw [hput_eq] at e10
    obtain ⟨h1, h2⟩ := heap_set (o' := .map es' clock) hw1
    refine .inr (.inl ⟨{ w with heap := w.heap.setIfInBounds bb (.map es' clock) }, ?_, _, σ, _, e10, .undef σ, .put H hl1 hs h1 h2 rfl (.inr (hO es' clock _ hM'))⟩)
    simp only [execOp, ho, hxv, hyv]
    rw [Sem.run_bind, hrun]
    rfl⟩
end
end Go.Rc
