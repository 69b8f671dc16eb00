/- RcN: bytes to a string, structs that are built, lengths, maps that are read. -/
import Derived.Test.YtomgkmoecbnddaaRcM
set_option linter.unusedVariables false
set_option linter.unusedSimpArgs false
set_option linter.unnecessarySimpa false
namespace Go.Rc
open Go Go.Sym
section
variable {P : Program} {n : Nat} {x y c : Operand} {g gx gy gc : G} {t yt : TypeId}
theorem foldl_push (bs : List UInt8) : ∀ r : ByteArray, ((bs.map byteV).map fun v => match v with | .int _ z => z | _ => 0).foldl (fun (r : ByteArray) (z : Int) => r.push (UInt8.ofNat z.toNat)) r = ⟨r.data ++ bs.toArray⟩ := by
  induction bs with
  | nil => intro r; simp
  | cons b bs ih =>
    intro r
    simp only [List.map_cons, List.foldl_cons, ih, byteV]
    have : (UInt8.ofNat ((b.toNat : Int)).toNat) = b := by simp
    rw [this]
    congr 1
    simp [ByteArray.push]
theorem byteV_map (bs : List UInt8) : bs.map byteV = (bs.map fun b => (b.toNat : Int)).map (Value.int .u8) := by simp [byteV]
theorem foldl_bytes (bs : List UInt8) : ∀ r : ByteArray, (bs.map fun b => (b.toNat : Int)).foldl (fun (r : ByteArray) (z : Int) => r.push (UInt8.ofNat z.toNat)) r = ⟨r.data ++ bs.toArray⟩ := by
  induction bs with
  | nil => intro r; simp
  | cons b bs ih =>
    intro r
    simp only [List.map_cons, List.foldl_cons, ih]
    have : (UInt8.ofNat ((b.toNat : Int)).toNat) = b := by simp
    rw [this]
    congr 1
    simp [ByteArray.push]
theorem b2s_ok {src dst e : TypeId} (hx : GOk n x g) (hs : P.underlying src = some (.slice e)) (he : P.underlying e = some (.int .u8)) (hd : P.underlying dst = some .string) : ∃ val, (∀ fr k, g fr k = true → k (val fr) = true) ∧ QOk P n (.convert src dst x) (opB2s g) (valRn val) := by
  obtain ⟨val, h1, h2⟩ := hx.ex
  refine ⟨val, h1, ⟨fun cf rb fr h k E R σ a w e0 hf H => ?_⟩⟩
  have hr := h2 σ fr a hf
  have e1 := h1 _ _ e0
  rcases isNil_t e1 with ⟨_, _, _, _, _, hv, e2⟩ | ⟨_, _, _, _, _, _, _, _, _, e2⟩
  · rw [hv] at hr
    have hxv : a.eval x = .slice none 0 0 := by simpa using hr.c3
    refine ⟨_, .string .empty, e2, .str rfl rfl, fun w' op ho _ => ?_⟩
    simp [execOp, ho, hxv, convert, run_underlying hs, run_underlying hd, run_underlying he, Conv.bytesToString]
  · obtain ⟨o, len, cap1, p, _, _, hv, e3⟩ := onSl_t e2
    obtain ⟨ct, ce, cq, cl, hct, hat, e4⟩ := hcells_t e3
    obtain ⟨q, e5, hq⟩ := subK_t e4
    obtain ⟨sa, sn, e6, hb⟩ := bytesK_t e5
    rw [hv] at hr
    obtain ⟨bb, c, cap, hxv, hsg, _, _⟩ := hr.c4
    obtain ⟨b1, c1, vl0, junk0, hl1, hs1, hw0, hrl0, _⟩ := H.cells hct hat
    obtain ⟨hlen, hzr⟩ := hq σ vl0 hrl0
    obtain ⟨bs, hbs, hsa, hsn⟩ := hb σ _ hzr
    refine ⟨_, .string ⟨bs.toArray⟩, e6, .str (by rw [hsa]) (by rw [hsn]; simp [ByteArray.size]), fun w' op ho hsame => ?_⟩
    have hread : w'.heap[bb]? = some (.cells (vl0 ++ junk0).toArray ce (0, 0)) := by
      rw [hsg] at hs1; injection hs1 with hs1; injection hs1 with hs1 _
      subst hs1
      rw [hsame p bb c ⟨_, _, _, _, _, _, hv⟩ hl1 hsg]; exact hw0
    have hbl : (bs.map byteV).length = len := by rw [← hbs]; simp; omega
    have hload : (loadCells ⟨bb, o, none⟩ len).run P w' = .ok ((bs.map fun b => (b.toNat : Int)).map (Value.int .u8)).toArray w' := by
      rw [← byteV_map, ← hbl]
      refine run_loadCells_list w' ⟨bb, o, none⟩ _ fun j v hj => ?_
      have hlt := (List.getElem?_eq_some_iff.1 hj).1
      rw [← hbs] at hj
      rw [List.getElem?_take_of_lt (by omega), List.getElem?_drop] at hj
      rw [add_none, cell_of hread, List.getElem?_append_left (by omega)]
      exact hj
    have := run_bytesToString w' ⟨bb, o, none⟩ len cap (bs.map fun b => (b.toNat : Int)) hload
    rw [foldl_bytes] at this
    simp only [execOp, ho, hxv]
    rw [Sem.run_bind]
    have hc : (convert src dst (.slice (some ⟨bb, o, none⟩) len cap)).run P w' = .ok (.string ⟨bs.toArray⟩) w' := by
      simp only [convert, Sem.run_bind, run_underlying hs, run_underlying hd, Result.andThen_ok, run_underlying he, this]
      simp
    rw [hc]; rfl
/-! ### structs and arrays that are built -/
inductive PtsOk (n : Nat) (pl : Nat → Option (Nat × Nat)) : List (Nat × Operand) → (T → V → (V → Bool) → Bool) → Prop
  | nil : PtsOk n pl [] bNil
  | cons {i o m x g l r} (hp : pl i = some (o, m)) (hx : GOk n x g) (h : PtsOk n pl l r) : PtsOk n pl ((i, x) :: l) (bCons o m g r)
theorem PtsOk.run {pl : Nat → Option (Nat × Nat)} {ps : List (Nat × Operand)} {b : T → V → (V → Bool) → Bool} (hb : PtsOk n pl ps b) : ∀ {fr : T} {z : V} {k : V → Bool}, b fr z k = true → ∃ q, k q = true ∧ ∀ σ a zl, FrOk σ n fr a → RelL σ z zl → ∃ r, RelL σ q r ∧ Instr.fill pl zl.toArray (ps.map fun p => (p.1, a.eval p.2)) = some r.toArray := by
  induction hb with
  | nil => intro fr z k e; exact ⟨z, e, fun σ a zl _ hz => ⟨zl, hz, rfl⟩⟩
  | cons hp hx _ ih =>
    rename_i i o m x g l r _
    intro fr z k e
    obtain ⟨val, h1, h2⟩ := hx.ex
    have e1 := h1 _ _ e
    obtain ⟨cl, e2, h3⟩ := cellsK_t e1
    obtain ⟨m', e3, h4⟩ := lenK_t e2
    obtain ⟨h5, e4⟩ := bi_f e3
    have h5 := beq_t h5
    subst h5
    obtain ⟨z', e5, h6⟩ := putK_t e4
    obtain ⟨q, e6, h7⟩ := ih e5
    refine ⟨q, e6, fun σ a zl hf hz => ?_⟩
    obtain ⟨xl, hxl, hcells⟩ := h3 σ _ (h2 σ fr a hf)
    have hm := h4 σ xl hxl
    obtain ⟨hle, hz'⟩ := h6 σ zl xl hz hxl
    obtain ⟨r, hr, hfill⟩ := h7 σ a _ hf hz'
    refine ⟨r, hr, ?_⟩
    simp only [List.map_cons]
    unfold Instr.fill
    simp only [hp, hcells, List.size_toArray]
    rw [if_neg (by simp; omega), fill_step (setSub_mk o zl xl hle)]
    exact hfill
theorem run_build' {t : TypeId} {w : World} {c r : List Value} {ps : List (Nat × Value)} {fs : Array Field} (hf : P.underlying t = some (.struct fs)) (hz : zeroOf P t = some c) (hall : isStruct P t = true) (hfill : Instr.fill (fieldPl P t) c.toArray ps = some r.toArray) :
    (Instr.build t ps.toArray).run P w = .ok (.agg r.toArray) w := by
  obtain ⟨v, hv1, hv2⟩ := run_zeroT (P := P) (w := w) hz
  have hm : ∃ places : Array (Nat × Nat), (fs.mapM fun f => (do pure (f.offset, ← sizeOf f.type) : Sem (Nat × Nat))).run P w = .ok places w ∧ ∀ i : Nat, places[i]? = fieldPl P t i := by
    have hl : ∀ l : List Field, (∀ fd ∈ l, (tyOf P fd.type).isSome = true) → ∃ ps : List (Nat × Nat), (l.mapM fun f => (do pure (f.offset, ← sizeOf f.type) : Sem (Nat × Nat))).run P w = .ok ps w ∧ ps.map some = l.map fun fd => (tyOf P fd.type).map fun p => (fd.offset, p.2) := by
      intro l
      induction l with
      | nil => intro _; exact ⟨[], by simp, rfl⟩
      | cons fd l ih =>
        intro h
        obtain ⟨ps, h1, h2⟩ := ih (fun x hx => h x (List.mem_cons_of_mem _ hx))
        obtain ⟨⟨ag, k⟩, hk⟩ := Option.isSome_iff_exists.1 (h fd List.mem_cons_self)
        refine ⟨(fd.offset, k) :: ps, ?_, by simp [h2, hk]⟩
        simp only [List.mapM_cons, Sem.run_bind, run_sizeT hk, Result.andThen_ok, Sem.run_pure, h1]
    have hall' : ∀ fd ∈ fs.toList, (tyOf P fd.type).isSome = true := by
      simp only [isStruct, hf, Array.all_eq_true_iff_forall_mem] at hall
      intro fd hm
      exact hall fd (by simpa using hm)
    obtain ⟨ps, h1, h2⟩ := hl fs.toList hall'
    refine ⟨ps.toArray, ?_, fun i => ?_⟩
    · rw [Array.mapM_eq_mapM_toList, map_eq_pure_bind, Sem.run_bind, h1]; rfl
    · have h3 := congrArg (fun l => l[i]?) h2
      simp only [List.getElem?_map, Array.getElem?_toList] at h3
      unfold fieldPl
      simp only [hf, List.getElem?_toArray]
      cases hi : fs[i]? with
      | none => simp [hi] at h3; simp [h3]
      | some fd => simp [hi] at h3; obtain ⟨x, y, hx1, hx2⟩ := h3; simp [hx1, hx2]
  obtain ⟨places, hp, hpl⟩ := hm
  have hpl' : (fun i => places[i]?) = fieldPl P t := funext hpl
  simp only [Instr.build, Sem.run_bind, hv1, hv2, Result.andThen_ok, run_underlying hf]
  rw [hp, Result.andThen_ok, hpl', hfill]
  rfl
theorem run_buildA {t e : TypeId} {w : World} {c r : List Value} {ps : List (Nat × Value)} {len s : Nat} {ag : Bool} (hf : P.underlying t = some (.array len e)) (hT : tyOf P e = some (ag, s)) (hz : zeroOf P t = some c) (hfill : Instr.fill (fun i => some (i * s, s)) c.toArray ps = some r.toArray) :
    (Instr.build t ps.toArray).run P w = .ok (.agg r.toArray) w := by
  obtain ⟨v, hv1, hv2⟩ := run_zeroT (P := P) (w := w) hz
  simp only [Instr.build, Sem.run_bind, hv1, hv2, Result.andThen_ok, run_underlying hf, run_sizeT hT]
  rw [hfill]
  rfl
theorem build_ok {pl : Nat → Option (Nat × Nat)} {ps : List (Nat × Operand)} {b : T → V → (V → Bool) → Bool} {z : V} {c : List Value} (hz : ∀ σ, RelL σ z c) (hb : PtsOk n pl ps b)
    (hrun : ∀ vs r w, Instr.fill pl c.toArray vs = some r → (Instr.build t vs.toArray).run P w = .ok (.agg r) w) : QOk P n (.build t ps.toArray) (opBuild z b) noRn := ⟨fun cf rb fr h k E R σ a w e hf _ => by
  obtain ⟨q, e2, h1⟩ := hb.run e
  obtain ⟨r, hr, hfill⟩ := h1 σ a c hf (hz σ)
  refine ⟨_, .agg r.toArray, e2, .agg hr, fun w' o ho _ => ?_⟩
  have e3 : (ps.toArray.map fun (i, x) => (i, a.eval x)) = (ps.map fun p => (p.1, a.eval p.2)).toArray := by simp
  simp only [execOp, ho, e3]
  rw [Sem.run_bind, hrun _ _ _ hfill]; rfl⟩
/-! ### lengths -/
theorem kLen_t {m : Nat} {h : Hp} {k : K1} (e : kLen m h k = true) : m < 9223372036854775808 ∧ k (vInt 3 m) h = true := by
  obtain ⟨h1, h2⟩ := bi_f e
  exact ⟨blt_t h1, h2⟩
theorem rel_len (σ : Sg) {m : Nat} (hm : m < 9223372036854775808) : Rel σ (vInt 3 m) (.int .i64 m) := .int (q := .i64) rfl (by show m < 18446744073709551616; omega) (wrap_small (q := .i64) hm).symm
/-- a named map: its block, its entries -/
theorem HR.map {E : Env} {R : List Blk} {σ : Sg} {h : Hp} {w : World} (H : HR P E R σ h w) {p : Pos} {e : Nat} {q : Pos} {l : V} (ha : h.t.at p = .o 3 e q l) : ∃ b c es clock, Live h p ∧ σ p = some (b, c) ∧ w.heap[b]? = some (.map es clock) ∧
    ((∃ (q : IntKind) (ml : List (Int × Value)), e = kc q ∧ MapOf (Value.int q) ml es clock ∧ RelM σ q l ml) ∨ (∃ ml : List (ByteArray × Value), e = 8 ∧ MapOf Value.string ml es clock ∧ RelMS σ l ml)) := by
  have hl : Live h p := by unfold Live; rw [ha]; simp
  obtain ⟨b, c, ob, h1, h2, h3⟩ := H.live p hl
  rw [ha] at h3
  cases h3 with
  | mapI he hM hr _ => exact ⟨b, c, _, _, hl, h1, h2, .inl ⟨_, _, he, hM, hr⟩⟩
  | mapS he hM hr _ => exact ⟨b, c, _, _, hl, h1, h2, .inr ⟨_, he, hM, hr⟩⟩
theorem RelM.len {σ : Sg} {q : IntKind} {l : V} {ml : List (Int × Value)} (h : RelM σ q l ml) : ∀ {n : Nat} {k : Nat → Bool}, lenK l n k = true → k (n + ml.length) = true := by
  induction h with
  | nil => intro n k e; exact e
  | cons _ _ _ _ _ _ ih =>
    intro n k e
    have e' : fN n (fun m => lenK _ (Nat.succ m) k) = true := e
    rw [fN_eq] at e'
    have := ih e'
    rw [Nat.succ_add] at this
    exact this
theorem RelMS.len {σ : Sg} {l : V} {ml : List (ByteArray × Value)} (h : RelMS σ l ml) : ∀ {n : Nat} {k : Nat → Bool}, lenK l n k = true → k (n + ml.length) = true := by
  induction h with
  | nil => intro n k e; exact e
  | cons _ _ _ _ _ ih =>
    intro n k e
    have e' : fN n (fun m => lenK _ (Nat.succ m) k) = true := e
    rw [fN_eq] at e'
    have := ih e'
    rw [Nat.succ_add] at this
    exact this
theorem lenS_ok (hx : GOk n x g) {e : TypeId} (ht : P.underlying t = some (.slice e)) : QOk P n (.call ⟨.builtin .len, #[x], #[t]⟩) (opLenS g) noRn := ⟨fun cf rb fr h k E R σ a w e0 hf H => by
  obtain ⟨val, h1, h2⟩ := hx.ex
  have hr := h2 σ fr a hf
  have e1 := h1 _ _ e0
  have run : ∀ (w' : World) (o : Oper) (p : Option Addr) (l c : Nat), o.op = .call ⟨.builtin .len, #[x], #[t]⟩ → a.eval x = .slice p l c → (execOp a.eval o).run P w' = .ok (.value (.int .i64 l)) w' := fun w' o p l c ho hxv => by
    simp [execOp, ho, resolve, hxv, invoke, builtin, Builtin.len_, run_underlying ht, goInt]
  rcases isNil_t e1 with ⟨_, _, _, _, _, hv, e2⟩ | ⟨_, _, _, _, _, _, _, _, _, e2⟩
  · rw [hv] at hr
    have hxv : a.eval x = .slice none 0 0 := by simpa using hr.c3
    obtain ⟨hm, e3⟩ := kLen_t e2
    exact ⟨_, _, e3, rel_len σ hm, fun w' o ho _ => run w' o _ _ _ ho hxv⟩
  · obtain ⟨o, len, cap1, p, _, _, hv, e3⟩ := onSl_t e2
    rw [hv] at hr
    obtain ⟨bb, c, cap, hxv, _⟩ := hr.c4
    obtain ⟨hm, e4⟩ := kLen_t e3
    exact ⟨_, _, e4, rel_len σ hm, fun w' o ho _ => run w' o _ _ _ ho hxv⟩⟩
theorem lenT_ok (hx : GOk n x g) (ht : P.underlying t = some .string) : QOk P n (.call ⟨.builtin .len, #[x], #[t]⟩) (opLenT g) noRn := ⟨fun cf rb fr h k E R σ a w e0 hf H => by
  obtain ⟨val, h1, h2⟩ := hx.ex
  have hr := h2 σ fr a hf
  obtain ⟨tg, na, nb, nd, p, l, r, hv, e1⟩ := onC_t (h1 _ _ e0)
  obtain ⟨htg, e2⟩ := bi_f e1
  have htg := beq_t htg
  rw [hv, htg] at hr
  obtain ⟨s, hxv, _, hsz⟩ := hr.c6
  obtain ⟨hm, e3⟩ := kLen_t e2
  refine ⟨_, _, e3, rel_len σ hm, fun w' o ho _ => ?_⟩
  rw [hsz]
  simp [execOp, ho, resolve, hxv, invoke, builtin, Builtin.len_, run_underlying ht, goInt]⟩
theorem run_getObj {w : World} {b : Nat} {o : Obj} (h : w.heap[b]? = some o) (hc : ∀ c e f, o ≠ .cells c e f) : (getObj b).run P w = .ok o w := by
  cases o <;> first | exact absurd rfl (hc _ _ _) | simp [getObj, Sem.run, h]
theorem lenM_ok (hx : GOk n x g) {kt e : TypeId} (ht : P.underlying t = some (.map kt e)) : ∃ val, (∀ fr k, g fr k = true → k (val fr) = true) ∧ QOk P n (.call ⟨.builtin .len, #[x], #[t]⟩) (opLenM g) (valRn val) := by
  obtain ⟨val, h1, h2⟩ := hx.ex
  refine ⟨val, h1, ⟨fun cf rb fr h k E R σ a w e0 hf H => ?_⟩⟩
  have hr := h2 σ fr a hf
  have e1 := h1 _ _ e0
  rcases isNil_t e1 with ⟨_, _, _, _, _, hv, e2⟩ | ⟨_, _, _, _, _, _, _, _, _, e2⟩
  · rw [hv] at hr
    have hxv : a.eval x = .map none := by simpa using hr.c3
    obtain ⟨hm, e3⟩ := kLen_t e2
    refine ⟨_, _, e3, rel_len σ hm, fun w' o ho _ => ?_⟩
    simp [execOp, ho, resolve, hxv, invoke, builtin, Builtin.len_, run_underlying ht, goInt]
  · obtain ⟨tg, na, nb, nd, p, _, _, hv, e3⟩ := onC_t e2
    obtain ⟨htg, e4⟩ := bi_f e3
    have htg := beq_t htg
    rw [hv, htg] at hr
    obtain ⟨bb, c, hxv, hs⟩ := hr.c5
    obtain ⟨tt, ee, qq, ll, hat, e5⟩ := onO_t (hget_t e4)
    obtain ⟨htt, e6⟩ := bi_f e5
    have htt := beq_t htt
    rw [htt] at hat
    obtain ⟨b1, c1, es, clock, hl1, hs1, hw1, hm⟩ := H.map hat
    rw [hs] at hs1; injection hs1 with hs1; injection hs1 with hs1 _
    subst hs1
    have hlen : ∃ m, m = es.size ∧ kLen m h k = true := by
      rcases hm with ⟨q, ml, _, hM, hR⟩ | ⟨ml, _, hM, hR⟩
      · exact ⟨0 + ml.length, by rw [hM.size]; omega, hR.len e6⟩
      · exact ⟨0 + ml.length, by rw [hM.size]; omega, hR.len e6⟩
    obtain ⟨m, rfl, e7⟩ := hlen
    obtain ⟨hm2, e8⟩ := kLen_t e7
    refine ⟨_, _, e8, rel_len σ hm2, fun w' o ho hsame => ?_⟩
    have hread : w'.heap[bb]? = some (.map es clock) := by rw [hsame p bb c ⟨_, _, _, _, _, _, hv⟩ hl1 hs]; exact hw1
    have hg := run_getObj (P := P) hread (fun _ _ _ => by simp)
    simp [execOp, ho, resolve, hxv, invoke, builtin, Builtin.len_, run_underlying ht, hg, goInt]
end
end Go.Rc
