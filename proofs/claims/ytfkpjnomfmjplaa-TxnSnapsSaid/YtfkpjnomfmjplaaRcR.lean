/- RcR: make of slices; calls. -/
import Derived.Test.YtfkpjnomfmjplaaRcQ
import Derived.Laws.MakeOwn
set_option linter.unusedVariables false
set_option linter.unusedSimpArgs false
set_option linter.unnecessarySimpa false
namespace Go.Rc
open Go Go.Sym
section
variable {P : Program} {n : Nat} {x y z : Operand} {g gx gy gz : G} {t yt : TypeId}
theorem made_eq (zl : List Value) (s : Nat) (hs : zl.length = s) : ∀ c : Nat, (List.range (c * s)).map (fun i => zl.toArray[i % zl.toArray.size]!) = (List.replicate c zl).flatten
  | 0 => by simp
  | c + 1 => by
    have e1 : (c + 1) * s = s + c * s := by rw [Nat.succ_mul, Nat.add_comm]
    rw [e1, List.range_add, List.map_append, List.map_map, List.replicate_succ, List.flatten_cons]
    congr 1
    · apply List.ext_getElem
      · simp [hs]
      · intro i h1 h2
        simp only [List.getElem_map, List.getElem_range]
        have h3 : i % zl.toArray.size = i := Nat.mod_eq_of_lt (by simpa using h2)
        rw [h3]
        simp [h2]
    · rw [← made_eq zl s hs c]
      apply List.map_congr_left
      intro i _
      show zl.toArray[(s + i) % zl.toArray.size]! = _
      have h3 : (s + i) % zl.toArray.size = i % zl.toArray.size := by
        have : zl.toArray.size = s := by simpa using hs
        rw [this, Nat.add_mod_left]
      rw [h3]
theorem mks_ok {et : TypeId} {ag : Bool} {s by_ : Nat} {zl : List Value} {zv : V} (ht : P.underlying t = some (.slice et)) (hT : tyOf P et = some (ag, s)) (hby : bytesT P et = some by_) (hz : zeroOf P et = some zl) (hzv : ∀ σ, RelL σ zv zl) (hzl : zl.length = s) (hx : GOk n x gx) (hy : GOk n y gy) :
    WOk P n (.makeSlice t x y) (opMks et by_ zv gx gy) := ⟨fun cf rb fr h k E R σ a w op ho _ _ e0 hf H => by
  obtain ⟨i, hi, hib⟩ := run_bytesT hby
  have hi2 : i.size = s ∧ ∃ zv, i.zero = some zv ∧ zv.cells = zl.toArray := by
    constructor
    · have h1 := run_sizeT (P := P) (w := w) hT
      simp [sizeOf, run_info hi] at h1
      exact h1
    · unfold zeroOf at hz
      cases hzz : i.zero with
      | none => simp [hi, hzz] at hz
      | some zv => simp [hi, hzz] at hz; exact ⟨zv, rfl, by rw [← hz]⟩
  obtain ⟨his, zo, hzo, hzc⟩ := hi2
  obtain ⟨vx, x1, x2⟩ := hx.ex
  obtain ⟨vy, y1, y2⟩ := hy.ex
  have e1 := x1 _ _ e0
  have hrx := x2 σ fr a hf
  have hry := y2 σ fr a hf
  obtain ⟨l, kb, _, _, _, _, hv, hi1, hi3, e2⟩ := onNat_t e1
  rw [hv] at hrx
  obtain ⟨ql, hql⟩ := idx_val hrx hi1 hi3
  have e3 := y1 _ _ e2
  obtain ⟨c, kb2, _, _, _, _, hv2, hj1, hj3, e4⟩ := onNat_t e3
  rw [hv2] at hry
  obtain ⟨qc, hqc⟩ := idx_val hry hj1 hj3
  obtain ⟨h1, e5⟩ := bi_f e4
  obtain ⟨h2, e6⟩ := bi_f e5
  obtain ⟨h3, e7⟩ := bi_f e6
  have h1 : l ≤ c := ble_t h1
  have h2 : c ≤ 16777216 := ble_t h2
  have h3 : by_ * c ≤ 16777216 := ble_t h3
  obtain ⟨q, e8, hq⟩ := repK_t e7
  rw [hnew_eq, fN_eq] at e8
  have hb : (i.bytes : Int) * (c : Int) ≤ 281474976710656 := by
    have h : ((by_ * c : Nat) : Int) ≤ 281474976710656 := by omega
    rw [hib]; rwa [Int.natCast_mul] at h
  have hr := run_make (P := P) w t et i zo ht hi hzo ql qc l c (by omega) (by omega) hb (by omega)
  simp only [Int.toNat_natCast] at hr
  have hm : madeCells zo.cells (c * i.size) = (List.replicate c zl).flatten.toArray := by
    rw [hzc, his]
    apply Array.ext'
    rw [← made_eq zl s hzl c]
    simp [madeCells]
  rw [hm] at hr
  refine .inl ⟨.slice (some ⟨w.heap.size, 0, none⟩) l c, w.alloc (.cells (List.replicate c zl).flatten.toArray et), ?_, good_new (gh := .c 0) (val := fun p => vSl p 0 l (Nat.succ c)) H rfl rfl (by rw [hnew_eq]; exact e8) (.cells (hq _ zl (hzv _))) (.sl (upS_self _ _ _) h1 (.inl rfl))⟩
  simp only [execOp, ho, hql, hqc]
  rw [Sem.run_bind, hr]
  rfl⟩
/-! ### calls -/
theorem callG_ok {gi : Nat} {xs : List Operand} {gs : List G} {tys : Array TypeId} (hg : GsOk n xs gs) : WOk P n (.call ⟨.value (.func gi), xs.toArray, tys⟩) (opCallG (posOf gi) gs) := ⟨fun cf rb fr h k E R σ a w op ho hcf hrb e0 hf H => by
  obtain ⟨q, e1, h1⟩ := evsK_t hg e0
  obtain ⟨gj, hp, hrun, hcall⟩ := hcf rb (posOf gi) q h k E R σ w _ e1 hrb H (h1 σ a hf)
  obtain rfl := posOf_inj hp
  refine .inr (.inr ⟨gi, (xs.map a.eval).toArray, w, ?_, hcall⟩)
  simp [execOp, ho, resolve, Act.eval, Deferred.ofValue, invoke, hrun]⟩
theorem call_run {gi : Nat} {f : Operand} {xs : List Operand} {tys : Array TypeId} {a : Act} {fl cl : List Value} {op : Oper} {w : World} (ho : op.op = .call ⟨.value f, xs.toArray, tys⟩) (hv : a.eval f = .func (.func gi) fl.toArray cl.toArray) (hrun : ∀ args w, (callFunc gi args).run P w = .ok (.enter gi args) w) :
    (execOp a.eval op).run P w = .ok (.enter gi (fl ++ (xs.map a.eval ++ cl)).toArray) w := by
  simp [execOp, ho, resolve, hv, Deferred.ofValue, invoke, hrun]
theorem call_ok {f : Operand} {gf : G} {xs : List Operand} {gs : List G} {tys : Array TypeId} (hF : GOk n f gf) (hg : GsOk n xs gs) : OOp P n (.call ⟨.value f, xs.toArray, tys⟩) (opCall gf gs) := ⟨fun cf rb fr h k E R σ a w op ho hcf hrb e0 hf H => by
  obtain ⟨vf, f1, f2⟩ := hF.ex
  have e1 := f1 _ _ e0
  have hr := f2 σ fr a hf
  obtain ⟨q, e2, h1⟩ := evsK_t hg e1
  obtain ⟨tg, _, _, _, p, fs, cs, hv, e3⟩ := onC_t e2
  rw [hv] at hr
  rcases bi_t e3 with ⟨ht, e4⟩ | ⟨ht, e4⟩
  · have ht := beq_t ht
    subst ht
    obtain ⟨gi, fl, cl, hx, rfl, hfl, hcl⟩ := hr.c7
    obtain ⟨q1, e5, h5⟩ := appK_t e4
    obtain ⟨q2, e6, h6⟩ := appK_t e5
    obtain ⟨gj, hp, hrun, hcall⟩ := hcf rb (posOf gi) q2 h k E R σ w _ e6 hrb H (h6 σ _ _ (h5 σ _ _ hfl (h1 σ a hf)) hcl)
    obtain rfl := posOf_inj hp
    refine .inl (.inr (.inr ⟨gi, _, w, call_run ho hx hrun, ?_⟩))
    simpa using hcall
  · obtain ⟨ht, e5⟩ := bi_f e4
    have ht := beq_t ht
    subst ht
    obtain ⟨bb, c, hx, hs⟩ := hr.c8
    obtain ⟨bl, c', hs', g2, tm, ac, bd, hy, hR⟩ := hrb σ E R p q h k w _ (Ext.refl _) e5 H (h1 σ a hf)
    rw [hs] at hs'
    injection hs' with hs'
    injection hs' with hs' _
    subst hs'
    refine .inr ⟨bb, g2, tm, ac, bd, ?_, hR⟩
    have : (xs.toArray.map a.eval) = (xs.map a.eval).toArray := by simp
    simp only [execOp, ho, resolve, hx, Deferred.ofValue, this]
    simp [invoke, hy]⟩
theorem callD_ok {f : Operand} {gf : G} {xs : List Operand} {gs : List G} {tys : Array TypeId} (hF : GOk n f gf) (hg : GsOk n xs gs) : WOk P n (.call ⟨.value f, xs.toArray, tys⟩) (opCallD gf gs) := ⟨fun cf rb fr h k E R σ a w op ho hcf hrb e0 hf H => by
  obtain ⟨vf, f1, f2⟩ := hF.ex
  have e1 := f1 _ _ e0
  have hr := f2 σ fr a hf
  obtain ⟨q, e2, h1⟩ := evsK_t hg e1
  obtain ⟨tg, _, _, _, p, fs, cs, hv, e3⟩ := onC_t e2
  rw [hv] at hr
  obtain ⟨ht, e4⟩ := bi_f e3
  have ht := beq_t ht
  subst ht
  obtain ⟨gi, fl, cl, hx, rfl, hfl, hcl⟩ := hr.c7
  obtain ⟨q1, e5, h5⟩ := appK_t e4
  obtain ⟨q2, e6, h6⟩ := appK_t e5
  obtain ⟨gj, hp, hrun, hcall⟩ := hcf rb (posOf gi) q2 h k E R σ w _ e6 hrb H (h6 σ _ _ (h5 σ _ _ hfl (h1 σ a hf)) hcl)
  obtain rfl := posOf_inj hp
  refine .inr (.inr ⟨gi, _, w, call_run ho hx hrun, ?_⟩)
  simpa using hcall⟩
/-! ### methods -/
theorem run_methOf {ty gi : Nat} {name : String} (h : methOf P ty name = some gi) (v : Value) (fu : Nat) (w : World) : (method (fu + 1) ty v name).run P w = .ok (gi, v) w := by
  unfold methOf at h
  cases hi : P.info? ty with
  | none => rw [hi] at h; cases h
  | some i =>
    rw [hi] at h
    simp only at h
    cases hm : i.methods.find? (·.name == name) with
    | none => rw [hm] at h; cases h
    | some m =>
      rw [hm] at h
      simp only at h
      have hti : (typeInfo ty).run P w = .ok i w := run_info hi
      have hpath : m.path.isEmpty = true → m.path.toList = [] := fun h => by simpa using h
      split at h
      · rename_i hp hf hu
        injection h with h
        subst h
        simp only [method, Sem.run_bind, hti, Result.andThen_ok, hm, hpath hp, follow, Sem.run_pure, hf, receiverAt, run_underlying hu, Place.get]
      · cases h
      · cases h
      · rename_i h1 h2 hp hf hu
        injection h with h
        subst h
        simp only [method, Sem.run_bind, hti, Result.andThen_ok, hm, hpath hp, follow, Sem.run_pure, hf, receiverAt, run_underlying hu, Place.get]
      · cases h
theorem methsK_t {name : String} : ∀ {n : Nat} {k : (Nat → (Pos → Bool) → Bool) → Bool}, methsK P name n k = true → ∃ m, k m = true ∧ ∀ ty k', m ty k' = true → ∃ g, methOf P ty name = some g ∧ k' (posOf g) = true
  | 0, k, h => ⟨mNil, h, fun _ _ h => by cases h⟩
  | t + 1, k, h => by
    unfold methsK at h
    cases hm : methOf P t name with
    | none =>
      rw [hm] at h
      exact methsK_t (n := t) h
    | some g =>
      rw [hm] at h
      simp only at h
      rw [posK_eq, fN_eq] at h
      obtain ⟨m, h1, h2⟩ := methsK_t (n := t) h
      refine ⟨_, h1, fun ty k' h3 => ?_⟩
      rcases bi_t h3 with ⟨h4, h5⟩ | ⟨_, h5⟩
      · exact ⟨g, by rw [← beq_t h4]; exact hm, h5⟩
      · exact h2 ty k' h5
theorem inv_ok {f : Operand} {gf : G} {xs : List Operand} {gs : List G} {tys : Array TypeId} {name : String} {m : Nat → (Pos → Bool) → Bool} (hF : GOk n f gf) (hg : GsOk n xs gs) (hm : ∀ ty k', m ty k' = true → ∃ g, methOf P ty name = some g ∧ k' (posOf g) = true) :
    WOk P n (.call ⟨.invoke f name, xs.toArray, tys⟩) (opInv gf m gs) := ⟨fun cf rb fr h k E R σ a w op ho hcf hrb e0 hf H => by
  obtain ⟨vf, f1, f2⟩ := hF.ex
  have e1 := f1 _ _ e0
  have hr := f2 σ fr a hf
  obtain ⟨q, e2, h1⟩ := evsK_t hg e1
  obtain ⟨tg, ty, _, _, p, u, _, hv, e3⟩ := onC_t e2
  rw [hv] at hr
  obtain ⟨ht, e4⟩ := bi_f e3
  have ht := beq_t ht
  subst ht
  obtain ⟨uv, hx, hu⟩ := hr.c11
  obtain ⟨gi, hmo, e5⟩ := hm _ _ e4
  obtain ⟨gj, hp, hrun, hcall⟩ := hcf rb (posOf gi) _ h k E R σ w _ e5 hrb H (.cons hu (h1 σ a hf))
  obtain rfl := posOf_inj hp
  refine .inr (.inr ⟨gi, _, w, ?_, hcall⟩)
  have e6 := run_methOf hmo uv (P.types.size + 99) w
  have e8 : #[a.eval f] ++ xs.toArray.map a.eval = (Value.iface ty uv :: xs.map a.eval).toArray := by simp [hx]
  have e7 : (Value.iface ty uv :: xs.map a.eval).toArray.extract 1 = (xs.map a.eval).toArray := by
    simp
    rw [List.take_of_length_le (by simp)]
  simp only [execOp, ho, resolve, Sem.run_bind, Sem.run_pure, Result.andThen_ok, e8]
  show (invoke (.fn (.method name) #[]) (Value.iface ty uv :: xs.map a.eval).toArray).run P w = _
  unfold invoke
  simp only [List.getElem?_toArray, List.getElem?_cons_zero, callMethod, Sem.run_bind, e7]
  rw [show (program : Sem Program).run P w = .ok P w from rfl, Result.andThen_ok, show P.types.size + Made.depth = P.types.size + 99 + 1 from rfl, e6, Result.andThen_ok]
  simpa using hrun _ w⟩
end
end Go.Rc
