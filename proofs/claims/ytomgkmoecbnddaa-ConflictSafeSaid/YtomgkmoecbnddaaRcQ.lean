/- RcQ: operations that make blocks; stores. -/
import Derived.Test.YtomgkmoecbnddaaRcP
set_option linter.unusedVariables false
set_option linter.unusedSimpArgs false
set_option linter.unnecessarySimpa false
namespace Go.Rc
open Go Go.Sym
section
variable {P : Program} {n : Nat} {x y z : Operand} {g gx gy gz : G} {t yt : TypeId}
/-- a new block, and what is said of it -/
theorem good_new {E : Env} {R : List Blk} {σ : Sg} {h : Hp} {w w0 : World} {k : K1} {ao : AO} {ob : Obj} {gh : Gh} {val : Pos → V} {x : Value} (H : HR P E R σ h w) (hw : w0.heap = w.heap) (he : (w0.os, w0.output) = (w.os, w.output)) (e : hnew h ao (fun p h' => k (val p) h') = true)
    (ho : OOk P (upS σ h.nx (w.heap.size, gh)) gh ao ob) (hx : Rel (upS σ h.nx (w.heap.size, gh)) (val h.nx) x) : Good P E R σ h w k x (w0.alloc ob) := by
  rw [hnew_eq] at e
  have s1 := Step.world H hw he
  have s2 := Step.alloc (c := gh) (ao := ao) (ob := ob) s1.hr (by rw [hw]; exact ho)
  rw [hw] at s2
  exact ⟨_, _, _, e, hx, s1.trans s2⟩
theorem upS_ptr (σ : Sg) (p : Pos) (b : Nat) (gh : Gh) (o : Nat) : Rel (upS σ p (b, gh)) (vPtr p o) (.pointer (some ⟨b, o, none⟩)) := .ptr (upS_self _ _ _)
theorem alloc_ok {c : List Value} {zv : V} (hz : zeroOf P t = some c) (hzv : ∀ σ, RelL σ zv c) : WOk P n (.alloc t) (opAlloc zv t) := ⟨fun cf rb fr h k E R σ a w o ho _ _ e hf H => by
  obtain ⟨v, hv, hc⟩ := run_zeroT (P := P) (w := w) hz
  refine .inl ⟨.pointer (some ⟨w.heap.size, 0, none⟩), w.alloc (.cells c.toArray t), ?_, good_new (gh := .c 0) (val := fun p => vPtr p 0) H rfl rfl e (.cells (hzv _)) (upS_ptr _ _ _ _ _)⟩
  simp only [execOp, ho, Instr.alloc, Sem.run_bind, hv, Result.andThen_ok, newVar, newRow, newObj, hc]
  rfl⟩
theorem box_ok (hx : GOk n x g) : WOk P n (.box t x) (opBox t g) := ⟨fun cf rb fr h k E R σ a w o ho _ _ e hf H => by
  obtain ⟨val, h1, h2⟩ := hx.ex
  have e1 := h1 _ _ e
  obtain ⟨l, e2, h3⟩ := cellsK_t e1
  obtain ⟨xl, hxl, hc⟩ := h3 σ _ (h2 σ fr a hf)
  refine .inl ⟨.pointer (some ⟨w.heap.size, 0, none⟩), w.alloc (.cells xl.toArray t), ?_, good_new (gh := .c 0) (val := fun p => vPtr p 0) H rfl rfl e2 (.cells (hxl.mono (H.ext _))) (upS_ptr _ _ _ _ _)⟩
  simp only [execOp, ho, Instr.box, Sem.run_bind, newVar, newRow, newObj, hc]
  rfl⟩
theorem app_mk : ∀ (l m : List Value), App l m (l ++ m)
  | [], m => .nil
  | v :: l, m => .cons (app_mk l m)
inductive QsOk (n s : Nat) : List (Nat × Operand) → (T → (V → Bool) → Bool) → Prop
  | nil : QsOk n s [] qNil
  | cons {i x g l r} (hx : GOk n x g) (h : QsOk n s l r) : QsOk n s ((i, x) :: l) (qCons s g r)
theorem QsOk.run {s : Nat} {ps : List (Nat × Operand)} {b : T → (V → Bool) → Bool} (hb : QsOk n s ps b) : ∀ {fr : T} {k : V → Bool}, b fr k = true → ∃ q, k q = true ∧ ∀ σ a i, FrOk σ n fr a → (∀ j p, ps[j]? = some p → p.1 = i + j) → ∃ c, RelL σ q c ∧ SeqP s i (ps.map fun p => (p.1, a.eval p.2)) c := by
  induction hb with
  | nil => intro fr k e; exact ⟨.n, e, fun σ a i _ _ => ⟨[], .nil, .nil⟩⟩
  | cons hx _ ih =>
    intro fr k e
    obtain ⟨val, h1, h2⟩ := hx.ex
    have e1 := h1 _ _ e
    obtain ⟨cl, e2, h3⟩ := cellsK_t e1
    obtain ⟨m', e3, h4⟩ := lenK_t e2
    obtain ⟨h5, e4⟩ := bi_f e3
    have h5 := beq_t h5
    obtain ⟨q, e5, h6⟩ := ih e4
    obtain ⟨q', e6, h7⟩ := appK_t e5
    refine ⟨q', e6, fun σ a i hf hi => ?_⟩
    obtain ⟨xl, hxl, hcells⟩ := h3 σ _ (h2 σ fr a hf)
    obtain ⟨c, hc, hseq⟩ := h6 σ a (i + 1) hf (fun j p hp => by have := hi (j + 1) p (by simpa using hp); omega)
    refine ⟨xl ++ c, h7 σ xl c hxl hc, ?_⟩
    have h0 := hi 0 _ rfl
    simp only [List.map_cons]
    simp only at h0
    rw [show (i + 0 = i) from rfl] at h0
    subst h0
    exact .cons hcells (by have := h4 σ xl hxl; omega) hseq (app_mk _ _)
theorem run_buildSlice {et : TypeId} {len s : Nat} {ag : Bool} {z : Value} {vs : List (Nat × Value)} {c : List Value} {w : World} (hu : P.underlying t = some (.slice et)) (hT : tyOf P et = some (ag, s)) (hz : zeroVal P et = some z) (hq : SeqP s 0 vs c) (hlen : vs.length = len) (hsm : len * s ≤ 16777216) :
    (Instr.buildSlice t len vs.toArray).run P w = .ok (.slice (some ⟨w.heap.size, 0, none⟩) len len) (w.alloc (.cells c.toArray et)) := by
  have e1 : (2 : Nat) ^ 24 = 16777216 := by decide
  unfold Instr.buildSlice
  simp only [Sem.run_bind, run_underlying hu, Result.andThen_ok, run_sizeT hT]
  rw [if_neg (by omega)]
  have key : ∀ zz : Array Value, Instr.fill (fun i => some (i * s, s)) ((Array.range (len * s)).map (zz[· % zz.size]!)) vs = some c.toArray := by
    intro zz
    have := fill_seq hq ((Array.range (len * s)).map (zz[· % zz.size]!)).toList (by simp [hlen])
    rw [Array.toArray_toList] at this
    rw [this]; simp
  have hfin : ∀ (st : Sem Value) (zz : Array Value), (match Instr.fill (fun i => some (i * s, s)) ((Array.range (len * s)).map (zz[· % zz.size]!)) vs with
      | some cells => do pure (Value.slice (some (← newRow et cells)) len len)
      | _ => st : Sem Value).run P w = .ok (.slice (some ⟨w.heap.size, 0, none⟩) len len) (w.alloc (.cells c.toArray et)) := by
    intro st zz
    rw [key zz]
    simp only [newRow, newObj]
    rfl
  by_cases h0 : len * s = 0
  · rw [if_pos h0, Sem.run_bind, Sem.run_pure, Result.andThen_ok]
    exact hfin _ #[]
  · rw [if_neg h0, Sem.run_bind, run_zeroV hz, Result.andThen_ok, Sem.run_bind, Sem.run_pure, Result.andThen_ok]
    exact hfin _ z.cells
theorem bsl_ok {et : TypeId} {len s : Nat} {ag : Bool} {zz : Value} {ps : List (Nat × Operand)} {b : T → (V → Bool) → Bool} (hu : P.underlying t = some (.slice et)) (hT : tyOf P et = some (ag, s)) (hz : zeroVal P et = some zz) (hb : QsOk n s ps b) (hi : ∀ (j : Nat) (p : Nat × Operand), ps[j]? = some p → p.1 = j) (hlen : ps.length = len) (hsm : len * s ≤ 16777216) :
    WOk P n (.buildSlice t len ps.toArray) (opBsl et len b) := ⟨fun cf rb fr h k E R σ a w o ho _ _ e hf H => by
  obtain ⟨q, e2, h1⟩ := hb.run e
  obtain ⟨c, hc, hseq⟩ := h1 σ a 0 hf (fun j p hp => by rw [hi j p hp]; omega)
  refine .inl ⟨.slice (some ⟨w.heap.size, 0, none⟩) len len, w.alloc (.cells c.toArray et), ?_, good_new (gh := .c 0) (val := fun p => vSl p 0 len (Nat.succ len)) H rfl rfl e2 (.cells (hc.mono (H.ext _))) (.sl (upS_self _ _ _) (Nat.le_refl _) (.inl rfl))⟩
  have e3 : (ps.toArray.map fun (i, x) => (i, a.eval x)) = (ps.map fun p => (p.1, a.eval p.2)).toArray := by simp
  simp only [execOp, ho, e3]
  rw [Sem.run_bind, run_buildSlice hu hT hz hseq (by simpa using hlen) hsm]
  rfl⟩
/-- an operation that lays one block, which hangs on the frame alone -/
structure AOk (P : Program) (n : Nat) (op : Op) (f : OpF) : Prop where
  ok : ∀ cf rb fr h k, f cf rb fr h k = true → ∃ (ao : AO) (val : Pos → V), hnew h ao (fun p h' => k (val p) h') = true ∧ ∀ σ a, FrOk σ n fr a → ∃ (ob : Obj) (gh : Gh) (x : Nat → Value),
    (∀ w (o : Oper), o.op = op → (execOp a.eval o).run P w = .ok (.value (x w.heap.size)) (w.alloc ob)) ∧ ∀ τ p b, Ext σ τ → τ p = some (b, gh) → OOk P τ gh ao ob ∧ Rel τ (val p) (x b)
theorem alloc_aok {c : List Value} {zv : V} (hz : zeroOf P t = some c) (hzv : ∀ σ, RelL σ zv c) : AOk P n (.alloc t) (opAlloc zv t) := ⟨fun cf rb fr h k e => by
  refine ⟨_, _, e, fun σ a hf => ⟨.cells c.toArray t (0, 0), .c 0, fun b => .pointer (some ⟨b, 0, none⟩), fun w o ho => ?_, fun τ p b _ hp => ⟨.cells (hzv _), .ptr hp⟩⟩⟩
  obtain ⟨v, hv, hc⟩ := run_zeroT (P := P) (w := w) hz
  simp only [execOp, ho, Instr.alloc, Sem.run_bind, hv, Result.andThen_ok, newVar, newRow, newObj, hc]
  rfl⟩
theorem box_aok (hx : GOk n x g) : AOk P n (.box t x) (opBox t g) := ⟨fun cf rb fr h k e => by
  obtain ⟨val, h1, h2⟩ := hx.ex
  have e1 := h1 _ _ e
  obtain ⟨l, e2, h3⟩ := cellsK_t e1
  refine ⟨_, _, e2, fun σ a hf => ?_⟩
  obtain ⟨xl, hxl, hc⟩ := h3 σ _ (h2 σ fr a hf)
  refine ⟨.cells xl.toArray t (0, 0), .c 0, fun b => .pointer (some ⟨b, 0, none⟩), fun w o ho => ?_, fun τ p b hs hp => ⟨.cells (hxl.mono hs), .ptr hp⟩⟩
  simp only [execOp, ho, Instr.box, Sem.run_bind, newVar, newRow, newObj, hc]
  rfl⟩
theorem bsl_aok {et : TypeId} {len s : Nat} {ag : Bool} {zz : Value} {ps : List (Nat × Operand)} {b : T → (V → Bool) → Bool} (hu : P.underlying t = some (.slice et)) (hT : tyOf P et = some (ag, s)) (hz : zeroVal P et = some zz) (hb : QsOk n s ps b) (hi : ∀ (j : Nat) (p : Nat × Operand), ps[j]? = some p → p.1 = j) (hlen : ps.length = len) (hsm : len * s ≤ 16777216) :
    AOk P n (.buildSlice t len ps.toArray) (opBsl et len b) := ⟨fun cf rb fr h k e => by
  obtain ⟨q, e2, h1⟩ := hb.run e
  refine ⟨_, _, e2, fun σ a hf => ?_⟩
  obtain ⟨c, hc, hseq⟩ := h1 σ a 0 hf (fun j p hp => by rw [hi j p hp]; omega)
  refine ⟨.cells c.toArray et (0, 0), .c 0, fun b => .slice (some ⟨b, 0, none⟩) len len, fun w o ho => ?_, fun τ p b hs hp => ⟨.cells (hc.mono hs), .sl hp (Nat.le_refl _) (.inl rfl)⟩⟩
  have e3 : (ps.toArray.map fun (i, x) => (i, a.eval x)) = (ps.map fun p => (p.1, a.eval p.2)).toArray := by simp
  simp only [execOp, ho, e3]
  rw [Sem.run_bind, run_buildSlice hu hT hz hseq (by simpa using hlen) hsm]
  rfl⟩
theorem mkm_ok {kt et : TypeId} {ke : Nat} (hf : KeyFit P kt ke) : WOk P n (.makeMap t none) (opMkm ke) := ⟨fun cf rb fr h k E R σ a w o ho _ _ e hfr H => by
  refine .inl ⟨.map (some w.heap.size), w.alloc (.map #[] 0), ?_, good_new (gh := .c 0) (val := vMap) H rfl rfl e ?_ (.map (upS_self _ _ _))⟩
  · simp only [execOp, ho, Instr.makeMap, Option.map, Sem.run_bind, newObj]
    rfl
  · rcases hf with ⟨q, _, rfl⟩ | ⟨_, rfl⟩
    · exact .mapI rfl MapOf.empty .nil (.inl rfl)
    · exact .mapS rfl MapOf.empty .nil (.inl rfl)⟩
theorem st_ok {ag : Bool} {m : Nat} (hT : tyOf P t = some (ag, m)) (hx : GOk n x gx) (hy : GOk n y gy) : WOk P n (.store t x y) (opSt m gx gy) := ⟨fun cf rb fr h k E R σ a w op ho _ _ e0 hf H => by
  obtain ⟨vx, x1, x2⟩ := hx.ex
  obtain ⟨vy, y1, y2⟩ := hy.ex
  have e1 := x1 _ _ e0
  have hr := x2 σ fr a hf
  obtain ⟨o, _, _, p, _, _, hv, e2⟩ := onPtr_t e1
  rw [hv] at hr
  obtain ⟨bb, c, hxv, hs⟩ := hr.c2
  have e3 := y1 _ _ e2
  obtain ⟨r, e4, h3⟩ := cellsK_t e3
  obtain ⟨e5, hone⟩ := allOne_t e4
  obtain ⟨m', e6, h4⟩ := lenK_t e5
  obtain ⟨h5, e7⟩ := bi_f e6
  have h5 := beq_t h5
  obtain ⟨ct, ce, cq, cl, hct, hat, e8⟩ := hcells_t e7
  obtain ⟨q, e9, hq⟩ := putK_t e8
  rw [hput_eq] at e9
  obtain ⟨xl, hxl, hcells⟩ := h3 σ _ (y2 σ fr a hf)
  have hm := h4 σ xl hxl
  obtain ⟨b1, c1, vl, junk, hl1, hs1, hw1, hrl, hc1, hc2⟩ := H.cells hct hat
  rw [hs] at hs1; injection hs1 with hs1; injection hs1 with hs1 hs2
  subst hs1 hs2
  obtain ⟨hle, hrq⟩ := hq σ vl xl hrl hxl
  have hset := setSub_mk o (vl ++ junk) xl (by simp; omega)
  have hlist : (vl ++ junk).take o ++ xl ++ (vl ++ junk).drop (o + xl.length) = (vl.take o ++ xl ++ vl.drop (o + xl.length)) ++ junk := by
    rw [List.take_append_of_le_length (by omega), List.drop_append_of_le_length (by omega)]; simp
  rw [hlist] at hset
  obtain ⟨w', hrun, hw1', hw2', hw3'⟩ := run_storeN (P := P) hT hw1 hcells (by omega) (fun u hu => hone σ xl hxl u hu) hset
  refine .inr (.inl ⟨w', ?_, _, σ, _, e9, .undef σ, .put H hl1 hs hw2' hw3' hw1' (.inr ?_)⟩)
  · simp [execOp, ho, hxv, Instr.storeAt, Instr.sureAddr, hrun]
  · rcases hct with rfl | rfl
    · obtain rfl := hc1 rfl
      simpa using OOk.cells hrq
    · obtain ⟨nn, ag', s', rfl, hT', hL⟩ := hc2 rfl
      exact .opn hrq hT' (by rw [← hL]; simp; omega)⟩
/-! ### append -/
theorem junk_ok {P : Program} {σ : Sg} {l : V} {xs : List Value} {et : TypeId} {ag : Bool} {s cap : Nat} {zc : Array Value} (hT : tyOf P et = some (ag, s)) (hl : RelL σ l xs) {m : Nat} (hx : xs.length = m * s) (hz : zc.size = s) (hc : m ≤ cap) {q : Pos} : OOk P σ (.c cap) (.o 2 et q l) (.cells (xs ++ (Builtin.zeroCells zc (cap - m)).toList).toArray et (0, 0)) := by
  refine .opn hl hT ?_
  simp only [List.length_append, Array.length_toList, zeroCells_len, hx, hz, ← Nat.add_mul]
  congr 1; omega
theorem app_ok {et : TypeId} {ag : Bool} {s by_ : Nat} {zl : List Value} (ht : P.underlying t = some (.slice et)) (hT : tyOf P et = some (ag, s)) (hby : bytesT P et = some by_) (hz : zeroOf P et = some zl) (hs1 : 1 ≤ s) (hzl : zl.length = s) (hx : GOk n x gx) (hy : GOk n y gy) :
    WOk P n (.call ⟨.builtin .append, #[x, y], #[t, t]⟩) (opApp et s by_ gx gy) := ⟨fun cf rb fr h k E R σ a w op ho _ _ e0 hf H => by
  obtain ⟨i, hi, hib⟩ := run_bytesT hby
  have hi2 : i.size = s ∧ ∃ zv, i.zero = some zv ∧ zv.cells = zl.toArray := by
    constructor
    · have h1 := run_sizeT (P := P) (w := w) hT
      simp [sizeOf, run_info hi] at h1
      exact h1
    · unfold zeroOf at hz
      cases hzz : i.zero with
      | none => simp [hi, hzz] at hz
      | some zv => simp [hi, hzz] at hz; exact ⟨zv, rfl, by rw [← hz]⟩
  obtain ⟨his, zv, hzv, hzc⟩ := hi2
  have hzs : zv.cells.size = s := by rw [hzc]; simpa using hzl
  obtain ⟨vx, x1, x2⟩ := hx.ex
  obtain ⟨vy, y1, y2⟩ := hy.ex
  have hrx := x2 σ fr a hf
  have hry := y2 σ fr a hf
  -- what is appended
  have hnews : ∃ m ys, (∃ c b2 o2, ((m = 0 ∧ a.eval y = .slice none 0 0) ∨ (a.eval y = .slice (some ⟨b2, o2, none⟩) m c ∧ ∃ vl, RelL σ ys vl ∧ vl.length = m * s ∧ ∀ (j : Nat) u, vl[j]? = some u → w.cell? ((⟨b2, o2, none⟩ : Addr).add j) = some u))) ∧
      (gx fr fun u => bi (Nat.beq m 0) (isNilV 1 u (k u h) (onSl u fun _ _ _ _ => k u h)) (allOne ys (
        isNilV 1 u (bi (Nat.ble (Nat.mul m by_) 16777216) (bi (Nat.ble m 16777216) (hnew h (.o 2 et .h ys) fun p h' => k (vSl p 0 m 0) h') false) false)
        (onSl u fun p o len cap1 => @Nat.rec (fun _ => Bool)
          (bi (Nat.beq o 0) (bi (Nat.ble (Nat.mul (Nat.add len m) by_) 16777216) (bi (Nat.ble (Nat.add len m) 16777216) (hcells h p fun t e' l => bi (Nat.beq t 2) (bi (Nat.beq et e') (subK l 0 (Nat.mul len s) fun xs => appK xs ys fun zs => hput h p .z fun h1 => hnew h1 (.o 2 et .h zs) fun q h' => fN (Nat.add len m) fun n' => k (vSl q 0 n' 0) h') false) false) false) false) false)
          (fun cap _ => bi (Nat.ble (Nat.add len m) cap) (hcells h p fun t e' l => bi (Nat.beq o 0) (bi (Nat.beq et e') (putK l (Nat.mul len s) ys fun l' => hput h p (.o t et .h l') fun h' => fN (Nat.add len m) fun n' => k (vSl p 0 n' cap1) h') false) false)
            (bi (Nat.ble (Nat.mul (Nat.add len m) by_) 16777216) (bi (Nat.ble (Nat.add len m) 16777216) (hcells h p fun _ _ l => subK l o (Nat.mul len s) fun xs => appK xs ys fun zs => hnew h (.o 2 et .h zs) fun q h' => fN (Nat.add len m) fun n' => k (vSl q 0 n' 0) h') false) false)) cap1)))) = true := by
    have e1 := y1 _ _ e0
    rcases isNil_t e1 with ⟨_, _, _, _, _, hv, e2⟩ | ⟨_, _, _, _, _, _, _, _, _, e2⟩
    · rw [hv] at hry
      have hyv : a.eval y = .slice none 0 0 := by simpa using hry.c3
      exact ⟨0, .n, ⟨0, 0, 0, .inl ⟨rfl, hyv⟩⟩, e2⟩
    · obtain ⟨o2, m, cap1, p2, _, _, hv, e3⟩ := onSl_t e2
      obtain ⟨ct, ce, cq, cl, hct, hat, e4⟩ := hcells_t e3
      obtain ⟨ys, e5, hq⟩ := subK_t e4
      rw [hv] at hry
      obtain ⟨b2, c2, cap2, hyv, hs2, _, _⟩ := hry.c4
      obtain ⟨b1, c1, vl, junk, _, hs1', hw1, hrl, _⟩ := H.cells hct hat
      rw [hs2] at hs1'; injection hs1' with hs1'; injection hs1' with hs1' _
      subst hs1'
      obtain ⟨hle, hrq⟩ := hq σ vl hrl
      have hle' : o2 + m * s ≤ vl.length := hle
      have hlq : ((vl.drop o2).take (m * s)).length = m * s := by simp; omega
      refine ⟨m, ys, ⟨cap2, b2, o2, .inr ⟨hyv, _, hrq, hlq, fun j u hj => ?_⟩⟩, e5⟩
      have hlt : j < m * s := by have := (List.getElem?_eq_some_iff.1 hj).1; rw [← hlq]; exact this
      have hj' : ((vl.drop o2).take (m * s))[j]? = some u := hj
      rw [List.getElem?_take_of_lt hlt, List.getElem?_drop] at hj'
      rw [add_none, cell_of hw1, List.getElem?_append_left (by omega)]
      exact hj'
  obtain ⟨m, ys, ⟨c2, b2, o2, hny⟩, e1⟩ := hnews
  have e2 := x1 _ _ e1
  -- the operation's run
  have run : ∀ {v : Value} {w' : World}, (Builtin.append_ #[t, t] op.type #[a.eval x, a.eval y]).run P w = .ok v w' → (execOp a.eval op).run P w = .ok (.value v) w' := fun {v w'} hr => by
    simp [execOp, ho, resolve, invoke, builtin, hr]
  rcases bi_t e2 with ⟨hm, e3⟩ | ⟨hm, e3⟩
  · -- nothing is appended
    have hm := beq_t hm
    subst hm
    have hlen0 : ∀ w : World, (Builtin.lenOf (a.eval y)).run P w = .ok 0 w := fun w => by
      rcases hny with ⟨_, hyv⟩ | ⟨hyv, _⟩ <;> simp [hyv, Builtin.lenOf]
    have hfc : ∀ w : World, (Builtin.firstCells s 0 (a.eval y)).run P w = .ok #[] w := fun w => by
      rcases hny with ⟨_, hyv⟩ | ⟨hyv, _⟩ <;> simp [hyv, Builtin.firstCells, loadCells, loadCellsFrom]
    have fin : ∀ {ad : Option Addr} {len cap : Nat}, a.eval x = .slice ad len cap → len ≤ cap → (Builtin.append_ #[t, t] op.type #[a.eval x, a.eval y]).run P w = .ok (.slice ad len cap) w := fun {ad len cap} hxv hle => by
      rw [hxv]
      cases ad <;> simp [Builtin.append_, run_underlying ht, run_sizeT hT, hlen0, hfc, hle, storeCells]
    rcases isNil_t e3 with ⟨_, _, _, _, _, hv, e4⟩ | ⟨_, _, _, _, _, _, _, _, _, e4⟩
    · have hr' := hrx
      rw [hv] at hrx
      have hxv : a.eval x = .slice none 0 0 := by simpa using hrx.c3
      exact .inl ⟨_, w, run (fin hxv (Nat.le_refl _)), _, σ, h, e4, hxv ▸ hr', .refl H⟩
    · obtain ⟨o, len, cap1, p, _, _, hv, e5⟩ := onSl_t e4
      have hr' := hrx
      rw [hv] at hrx
      obtain ⟨bb, c, cap, hxv, hs, hle, _⟩ := hrx.c4
      exact .inl ⟨_, w, run (fin hxv hle), _, σ, h, e5, hxv ▸ hr', .refl H⟩
  · have hm := beq_f hm
    rcases hny with ⟨h0, _⟩ | ⟨hyv, yl, hyl, hylen, hycell⟩
    · exact absurd h0 hm
    · obtain ⟨e4, hone⟩ := allOne_t e3
      have hone := hone σ yl hyl
      have hyl' : yl.length = m * i.size := by rw [his]; exact hylen
      rcases isNil_t e4 with ⟨_, _, _, _, _, hv, e5⟩ | ⟨_, _, _, _, _, _, _, _, _, e5⟩
      · -- onto nil
        rw [hv] at hrx
        have hxv : a.eval x = .slice none 0 0 := by simpa using hrx.c3
        obtain ⟨h1, e6⟩ := bi_f e5
        obtain ⟨h2, e7⟩ := bi_f e6
        have h1 : m * by_ ≤ 16777216 := ble_t h1
        have h2 : m ≤ 16777216 := ble_t h2
        have hrun := run_append_nil (P := P) w t op.type et i zv ht hi hzv ⟨b2, o2, none⟩ m c2 yl hyl' hycell (by omega) (by omega) (by rw [hib]; omega)
        have hge := grownCap_ge w m 0 et
        rw [← hxv, ← hyv] at hrun
        refine .inl ⟨_, _, run hrun, ?_⟩
        have e8 : yl.toArray ++ Builtin.zeroCells zv.cells (grownCap w m 0 et - m) = (yl ++ (Builtin.zeroCells zv.cells (grownCap w m 0 et - m)).toList).toArray := by
          apply Array.ext'; simp
        rw [e8]
        exact good_new (w0 := w.drew) (gh := .c (grownCap w m 0 et)) (val := fun p => vSl p 0 m 0) H rfl rfl e7 (junk_ok hT (hyl.mono (H.ext _)) hylen hzs hge) (.sl (upS_self _ _ _) hge (.inr ⟨rfl, fun _ => rfl⟩))
      · obtain ⟨o, len, cap1, p, _, _, hv, e6⟩ := onSl_t e5
        rw [hv] at hrx
        obtain ⟨bb, c, cap, hxv, hs, hle, hcap⟩ := hrx.c4
        -- growth into a new block
        have grow : ∀ {xl : V} {xs : List Value}, RelL σ xl xs → xs.length = len * s → (∀ j u, xs[j]? = some u → w.cell? ((⟨bb, o, none⟩ : Addr).add j) = some u) → cap < len + m → (len + m) * by_ ≤ 16777216 → len + m ≤ 16777216 →
            (execOp a.eval op).run P w = .ok (.value (.slice (some ⟨w.heap.size, 0, none⟩) (len + m) (grownCap w (len + m) cap et))) (w.drew.alloc (.cells ((xs ++ yl) ++ (Builtin.zeroCells zv.cells (grownCap w (len + m) cap et - (len + m))).toList).toArray et)) := fun {xl xs} _ hxlen hold hgt hb1 hb2 => by
          have hrun := run_append_grow (P := P) w t op.type et i zv ht hi hzv ⟨bb, o, none⟩ len cap xs (by rw [his]; exact hxlen) hold ⟨b2, o2, none⟩ m c2 yl hyl' hycell hgt (by omega) (growslice_fits hgt (by rw [hib]; omega))
          rw [← hxv, ← hyv] at hrun
          have e8 : xs.toArray ++ yl.toArray ++ Builtin.zeroCells zv.cells (grownCap w (len + m) cap et - (len + m)) = ((xs ++ yl) ++ (Builtin.zeroCells zv.cells (grownCap w (len + m) cap et - (len + m))).toList).toArray := by
            apply Array.ext'; simp
          rw [e8] at hrun
          exact run hrun
        have room : ∀ {vl junk : List Value}, o = 0 → w.heap[bb]? = some (.cells (vl ++ junk).toArray et (0, 0)) → len + m ≤ cap → len * s + yl.length ≤ (vl ++ junk).length →
            (execOp a.eval op).run P w = .ok (.value (.slice (some ⟨bb, 0, none⟩) (len + m) cap)) (w.setRow bb (((vl ++ junk).take (len * s) ++ yl ++ (vl ++ junk).drop (len * s + yl.length))).toArray) := fun {vl junk} ho0 hw1 hrm hfit => by
          have hrun := run_append_room (P := P) w t op.type et i ht hi bb len cap (vl ++ junk).toArray hw1 ⟨b2, o2, none⟩ m c2 yl hyl' hycell hone hrm (by rw [his]; simpa using hfit)
          rw [ho0] at hxv
          rw [← hxv, ← hyv, his] at hrun
          exact run hrun
        cases cap1 with
        | zero =>
          obtain ⟨h0, e7⟩ := bi_f e6
          obtain ⟨h1, e8⟩ := bi_f e7
          obtain ⟨h2, e9⟩ := bi_f e8
          have h0 := beq_t h0
          have h1 : (len + m) * by_ ≤ 16777216 := ble_t h1
          have h2 : len + m ≤ 16777216 := ble_t h2
          have hc0 : c = .c cap := by rcases hcap with h | ⟨_, h⟩; omega; exact h h0
          obtain ⟨ct, ce, cq, cl, hct, hat, e10⟩ := hcells_t e9
          obtain ⟨h3, e11⟩ := bi_f e10
          obtain ⟨h4, e12⟩ := bi_f e11
          have h3 := beq_t h3
          have h4 := beq_t h4
          obtain ⟨xl, e13, hxl⟩ := subK_t e12
          obtain ⟨zs, e14, hzs'⟩ := appK_t e13
          rw [hput_eq] at e14
          obtain ⟨b1, c1, vl, junk, hl1, hs1', hw1, hrl, _, hopn⟩ := H.cells hct hat
          rw [hs] at hs1'; injection hs1' with hs1'; injection hs1' with hs1' hs2'
          subst hs1' hs2'
          rw [← h4] at hw1
          obtain ⟨nn, ag', s', hcn, hT', hL⟩ := hopn h3
          rw [hc0] at hcn
          injection hcn with hcn
          subst hcn
          rw [← h4, hT] at hT'
          have hss : s = s' := by injection hT' with hT'; injection hT'
          subst hss
          obtain ⟨hle2, hrx2⟩ := hxl σ vl hrl
          have hle2 : 0 + len * s ≤ vl.length := hle2
          have hrx2 : RelL σ xl (vl.take (len * s)) := by simpa using hrx2
          have hxlen : (vl.take (len * s)).length = len * s := by simp; omega
          have hzr := hzs' σ _ _ hrx2 hyl
          have s1 := Step.drop H hl1
          have hn1 : (h.put p .z).nx = h.nx := rfl
          by_cases hrm : len + m ≤ cap
          · -- in place
            have hfit : len * s + yl.length ≤ (vl ++ junk).length := by
              rw [hL, hylen, ← Nat.add_mul]; exact Nat.mul_le_mul_right _ hrm
            refine .inl ⟨_, _, room h0 hw1 hrm hfit, ?_⟩
            rw [hnew_eq, fN_eq] at e14
            have hlist : (vl ++ junk).take (len * s) ++ yl ++ (vl ++ junk).drop (len * s + yl.length) = (vl.take (len * s) ++ yl) ++ (vl ++ junk).drop (len * s + yl.length) := by
              rw [List.take_append_of_le_length (by omega)]
            have s2 : Step P E R σ (h.put p .z) w (upS σ (h.put p .z).nx (bb, .c cap)) ((h.put p .z).new (.o 2 et .h zs)) (w.setRow bb ((vl ++ junk).take (len * s) ++ yl ++ (vl ++ junk).drop (len * s + yl.length)).toArray) := by
              refine .adopt s1.hr (setRow_heap _ _ _ _ _ _ hw1) (fun j hj => setRow_other _ _ _ _ hj) rfl ?_ ?_ ?_
              · intro q c' hq hsq
                obtain ⟨hq1, hq2⟩ := live_put_z hq
                exact hq2 (H.inj p q bb _ _ hl1 hq1 hs hsq)
              · intro x hx he
                exact (H.frame x hx).2 p _ hl1 (by rw [hs, he])
              · rw [hlist]
                refine .opn (hzr.mono (by rw [hn1]; exact H.ext _)) hT ?_
                rw [← hlist, ← hL, List.length_append, List.length_append, List.length_take, List.length_drop, Nat.min_eq_left (by omega)]
                omega
            exact ⟨_, _, _, e14, .sl (by rw [hn1]; exact upS_self _ _ _) hrm (.inr ⟨rfl, fun _ => rfl⟩), s1.trans s2⟩
          · -- a new block
            have hgt : cap < len + m := by omega
            refine .inl ⟨_, _, grow hrx2 hxlen (fun j u hj => ?_) hgt h1 h2, ?_⟩
            · have hlt := (List.getElem?_eq_some_iff.1 hj).1
              rw [List.getElem?_take_of_lt (by omega)] at hj
              rw [add_none, cell_of hw1, h0, Nat.zero_add, List.getElem?_append_left (by omega)]; exact hj
            · have hge := grownCap_ge w (len + m) cap et
              have e15 : hnew (h.put p .z) (.o 2 et .h zs) (fun q h' => k (vSl q 0 (len + m) 0) h') = true := by
                rw [hnew_eq, fN_eq] at e14; rw [hnew_eq]; exact e14
              have hg := good_new (w0 := w.drew) (gh := .c (grownCap w (len + m) cap et)) (val := fun p => vSl p 0 (len + m) 0) (x := .slice (some ⟨w.heap.size, 0, none⟩) (len + m) (grownCap w (len + m) cap et)) s1.hr rfl rfl e15
                (junk_ok hT ((hzr).mono (s1.hr.ext _)) (m := len + m) (by rw [List.length_append, hxlen, hylen, Nat.add_mul]) hzs hge) (.sl (upS_self _ _ _) hge (.inr ⟨rfl, fun _ => rfl⟩))
              obtain ⟨v, σ', h', g1, g2, g3⟩ := hg
              exact ⟨v, σ', h', g1, g2, s1.trans g3⟩
        | succ cp =>
          have hcp : cap = cp := by rcases hcap with h | ⟨h, _⟩ <;> omega
          subst hcp
          rcases bi_t e6 with ⟨hrm, e7⟩ | ⟨hrm, e7⟩
          · have hrm : len + m ≤ cap := ble_t hrm
            obtain ⟨ct, ce, cq, cl, hct, hat, e8⟩ := hcells_t e7
            obtain ⟨h0, e9⟩ := bi_f e8
            obtain ⟨h4, e10⟩ := bi_f e9
            have h0 := beq_t h0
            have h4 := beq_t h4
            obtain ⟨q, e11, hq⟩ := putK_t e10
            rw [hput_eq, fN_eq] at e11
            obtain ⟨b1, c1, vl, junk, hl1, hs1', hw1, hrl, hc1, hopn⟩ := H.cells hct hat
            rw [hs] at hs1'; injection hs1' with hs1'; injection hs1' with hs1' hs2'
            subst hs1' hs2'
            rw [← h4] at hw1
            obtain ⟨hle2, hrq⟩ := hq σ vl yl hrl hyl
            have hle2 : len * s + yl.length ≤ vl.length := hle2
            refine .inl ⟨_, _, room h0 hw1 hrm (by simp; omega), ?_⟩
            have hlist : (vl ++ junk).take (len * s) ++ yl ++ (vl ++ junk).drop (len * s + yl.length) = (vl.take (len * s) ++ yl ++ vl.drop (len * s + yl.length)) ++ junk := by
              rw [List.take_append_of_le_length (by omega), List.drop_append_of_le_length (by omega)]; simp
            rw [hlist]
            refine ⟨_, σ, _, e11, .sl hs hrm (.inl rfl), .put H hl1 hs (setRow_heap _ _ _ _ _ _ hw1) (fun j hj => setRow_other _ _ _ _ hj) rfl (.inr ?_)⟩
            rcases hct with rfl | rfl
            · obtain rfl := hc1 rfl
              have := OOk.cells (P := P) (c := c) (e := et) (q := Pos.h) hrq
              simpa using this
            · obtain ⟨nn, ag', s', rfl, hT', hL⟩ := hopn rfl
              rw [h4]
              exact .opn hrq hT' (by rw [← hL]; simp; omega)
          · have hrm := ble_f hrm
            have hgt : cap < len + m := hrm
            obtain ⟨h1, e8⟩ := bi_f e7
            obtain ⟨h2, e9⟩ := bi_f e8
            have h1 : (len + m) * by_ ≤ 16777216 := ble_t h1
            have h2 : len + m ≤ 16777216 := ble_t h2
            obtain ⟨ct, ce, cq, cl, hct, hat, e10⟩ := hcells_t e9
            obtain ⟨xl, e11, hxl⟩ := subK_t e10
            obtain ⟨zs, e12, hzs'⟩ := appK_t e11
            obtain ⟨b1, c1, vl, junk, hl1, hs1', hw1, hrl, _, _⟩ := H.cells hct hat
            rw [hs] at hs1'; injection hs1' with hs1'; injection hs1' with hs1' hs2'
            subst hs1' hs2'
            obtain ⟨hle2, hrx2⟩ := hxl σ vl hrl
            have hle2 : o + len * s ≤ vl.length := hle2
            have hrx2 : RelL σ xl ((vl.drop o).take (len * s)) := hrx2
            have hxlen : ((vl.drop o).take (len * s)).length = len * s := by simp; omega
            refine .inl ⟨_, _, grow hrx2 hxlen (fun j u hj => ?_) hgt h1 h2, ?_⟩
            · have hlt := (List.getElem?_eq_some_iff.1 hj).1
              rw [List.getElem?_take_of_lt (by omega), List.getElem?_drop] at hj
              rw [add_none, cell_of hw1, List.getElem?_append_left (by omega)]; exact hj
            · have hge := grownCap_ge w (len + m) cap et
              have e15 : hnew h (.o 2 et .h zs) (fun q h' => k (vSl q 0 (len + m) 0) h') = true := by
                rw [hnew_eq, fN_eq] at e12; rw [hnew_eq]; exact e12
              exact good_new (w0 := w.drew) (gh := .c (grownCap w (len + m) cap et)) (val := fun p => vSl p 0 (len + m) 0) H rfl rfl e15
                (junk_ok hT ((hzs' σ _ _ hrx2 hyl).mono (H.ext _)) (m := len + m) (by rw [List.length_append, hxlen, hylen, Nat.add_mul]) hzs hge) (.sl (upS_self _ _ _) hge (.inr ⟨rfl, fun _ => rfl⟩))⟩
end
end Go.Rc
