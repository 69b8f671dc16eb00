/- RcS: what the compiler of operations makes. -/
import Derived.Test.YtomgkmoecbnddaaRcR
set_option linter.unusedVariables false
set_option linter.unusedSimpArgs false
set_option linter.unnecessarySimpa false
namespace Go.Rc
open Go Go.Sym
inductive OpSpec (P : Program) (n : Nat) (dr : Bool) (op : Op) (f : OpF) : Kd → Prop
  | quiet (h : QOk P n op f noRn) : OpSpec P n dr op f .quiet
  | read {g : G} {val : T → V} (hg : ∀ fr k, g fr k = true → k (val fr) = true) (h : QOk P n op f (valRn val)) : OpSpec P n dr op f (.read g)
  | loud (h : OOp P n op f) (hd : dr = true → WOk P n op f) : OpSpec P n dr op f .loud
theorem OpSpec.w {P : Program} {n : Nat} {dr : Bool} {op : Op} {f : OpF} (h : WOk P n op f) : OpSpec P n dr op f .loud := .loud h.o fun _ => h
section
variable {P : Program} {n : Nat} {x y z : Operand} {g gx gy gz : G} {t yt : TypeId}
theorem zerosK_t {k : V → Bool} (h : zerosK P t k = true) : ∃ zl zv, zeroOf P t = some zl ∧ (∀ σ, RelL σ zv zl) ∧ k zv = true := by
  unfold zerosK at h
  cases hz : zeroOf P t with
  | none => rw [hz] at h; cases h
  | some l =>
    rw [hz] at h
    obtain ⟨a, h1, h2⟩ := scLK_t h
    exact ⟨l, a, rfl, h2, h1⟩
theorem partsK_t : ∀ {l : List (Nat × Operand)} {k : (T → V → (V → Bool) → Bool) → Bool}, partsK P n t l k = true → ∃ b, PtsOk n (fieldPl P t) l b ∧ k b = true
  | [], k, h => ⟨bNil, .nil, h⟩
  | (i, x) :: l, k, h => by
    unfold partsK at h
    cases hp : fieldPl P t i with
    | none => rw [hp] at h; cases h
    | some om =>
      obtain ⟨o, m⟩ := om
      rw [hp] at h
      obtain ⟨g, h1, h2⟩ := opdK_t h
      obtain ⟨b, h3, h4⟩ := partsK_t h2
      exact ⟨_, .cons hp h1 h3, h4⟩
theorem apartsK_t {s : Nat} : ∀ {l : List (Nat × Operand)} {k : (T → V → (V → Bool) → Bool) → Bool}, apartsK n s l k = true → ∃ b, PtsOk n (fun i => some (i * s, s)) l b ∧ k b = true
  | [], k, h => ⟨bNil, .nil, h⟩
  | (i, x) :: l, k, h => by
    obtain ⟨g, h1, h2⟩ := opdK_t (x := x) (k := fun g => fN (Nat.mul i s) fun o => apartsK n s l fun r => k (bCons o s g r)) h
    rw [fN_eq] at h2
    obtain ⟨b, h3, h4⟩ := apartsK_t h2
    exact ⟨_, .cons rfl h1 h3, h4⟩
theorem seqK_t {s : Nat} : ∀ {l : List (Nat × Operand)} {i : Nat} {k : Nat → (T → (V → Bool) → Bool) → Bool}, seqK n s i l k = true → ∃ b, QsOk n s l b ∧ k (i + l.length) b = true ∧ ∀ (j : Nat) (p : Nat × Operand), l[j]? = some p → p.1 = i + j
  | [], i, k, h => ⟨qNil, .nil, h, fun j p e => by cases e⟩
  | (j, x) :: l, i, k, h => by
    obtain ⟨h0, h1⟩ := bi_f (b := Nat.beq i j) h
    obtain ⟨g, h2, h3⟩ := opdK_t h1
    obtain ⟨b, h4, h5, h6⟩ := seqK_t h3
    have h0 := beq_t h0
    refine ⟨_, .cons h2 h4, by simpa [Nat.add_assoc, Nat.add_comm 1] using h5, fun u p e => ?_⟩
    cases u with
    | zero => simp at e; subst e; exact h0.symm
    | succ u => have := h6 u p (by simpa using e); omega
theorem keyK_fit {k : Nat → Bool} (h : keyK P t k = true) : ∃ kt et ke, P.underlying t = some (.map kt et) ∧ KeyFit P kt ke ∧ k ke = true := by
  unfold keyK at h
  split at h
  · rename_i kt et hu
    split at h
    · rename_i q hq
      exact ⟨kt, et, _, hu, .inl ⟨q, hq, rfl⟩, h⟩
    · rename_i hq
      exact ⟨kt, et, _, hu, .inr ⟨hq, rfl⟩, h⟩
    · cases h
  · cases h
theorem isStr_t (h : isStr P t = true) : P.underlying t = some .string := by
  unfold isStr at h
  split at h
  · assumption
  · cases h
theorem isStruct_t (h : isStruct P t = true) : ∃ fs, P.underlying t = some (.struct fs) := by
  unfold isStruct at h
  split at h
  · exact ⟨_, by assumption⟩
  · cases h
theorem sv_ok {s d : TypeId} (hx : GOk n x g) (hs : P.underlying s = some .string) (hd : P.underlying d = some .string) : QOk P n (.convert s d x) (opSv g) noRn := ⟨fun cf rb fr h k E R σ a w e hf _ => by
  obtain ⟨val, h1, h2⟩ := hx.ex
  have hr := h2 σ fr a hf
  have e0 := h1 _ _ e
  obtain ⟨tg, _, _, _, _, _, _, hv, e1⟩ := onC_t e0
  obtain ⟨ht, e2⟩ := bi_f e1
  have ht := beq_t ht
  subst ht
  have hr' := hr
  rw [hv] at hr'
  obtain ⟨st, hxv, _⟩ := hr'.c6
  refine ⟨_, _, e2, hr, fun w' o ho _ => ?_⟩
  simp [execOp, ho, hxv, convert, run_underlying hs, run_underlying hd]⟩
theorem elemU8_t (h : elemU8 P t = true) : ∃ e, P.underlying t = some (.slice e) ∧ P.underlying e = some (.int .u8) := by
  unfold elemU8 at h
  split at h
  · rename_i e hu
    split at h
    · exact ⟨e, hu, by assumption⟩
    · cases h
  · cases h
theorem eqnK_t {w tg : Nat} {o : BinOp} {k : KO} {dr : Bool} (hk : NilKind P t w tg) (hx : GOk n x gx) (hy : GOk n y gy) (hc : isC x || isC y = true) (h : eqnK w tg o gx gy k = true) : ∃ f kd, k f kd = true ∧ OpSpec P n dr (.binOp o t x y yt) f kd := by
  unfold eqnK at h
  split at h
  · exact ⟨_, _, h, .quiet (eqN_ok hk hx hy hc).1⟩
  · exact ⟨_, _, h, .quiet (eqN_ok hk hx hy hc).2⟩
  · cases h
theorem intK_t {q : IntKind} {o : BinOp} {k : KO} {dr : Bool} (hx : GOk n x gx) (hy : GOk n y gy) (h : intK q o gx gy k = true) : ∃ f kd, k f kd = true ∧ OpSpec P n dr (.binOp o t x y yt) f kd := by
  unfold intK at h
  simp only at h
  split at h <;> first
    | exact ⟨_, _, h, .quiet (addR_ok hx hy)⟩
    | exact ⟨_, _, h, .quiet (sub_ok hx hy)⟩
    | exact ⟨_, _, h, .quiet (mul_ok hx hy)⟩
    | exact ⟨_, _, h, .quiet (quo_ok hx hy)⟩
    | exact ⟨_, _, h, .quiet (remR_ok hx hy)⟩
    | exact ⟨_, _, h, .quiet (and2_ok hx hy)⟩
    | exact ⟨_, _, h, .quiet (or_ok hx hy)⟩
    | exact ⟨_, _, h, .quiet (xor_ok hx hy)⟩
    | exact ⟨_, _, h, .quiet (eql_ok hx hy)⟩
    | exact ⟨_, _, h, .quiet (neq_ok hx hy)⟩
    | exact ⟨_, _, h, .quiet (lss_ok hx hy)⟩
    | exact ⟨_, _, h, .quiet (leq_ok hx hy)⟩
    | exact ⟨_, _, h, .quiet (gtr_ok hx hy)⟩
    | exact ⟨_, _, h, .quiet (geq_ok hx hy)⟩
    | exact ⟨_, _, h, .quiet (shl_ok hx hy)⟩
    | exact ⟨_, _, h, .quiet (shrR_ok hx hy)⟩
    | cases h
theorem strOpK_t {o : BinOp} {k : KO} {dr : Bool} (hx : GOk n x gx) (hy : GOk n y gy) (h : strOpK o gx gy k = true) : ∃ f kd, k f kd = true ∧ OpSpec P n dr (.binOp o t x y yt) f kd := by
  unfold strOpK at h
  split at h <;> first
    | exact ⟨_, _, h, .quiet (sAdd_ok hx hy)⟩
    | exact ⟨_, _, h, .quiet (sEq_ok hx hy)⟩
    | exact ⟨_, _, h, .quiet (sNe_ok hx hy)⟩
    | exact ⟨_, _, h, .quiet (sLss_ok hx hy)⟩
    | exact ⟨_, _, h, .quiet (sGtr_ok hx hy)⟩
    | cases h
theorem binK_t {o : BinOp} {k : KO} {dr : Bool} (hx : GOk n x gx) (hy : GOk n y gy) (h : binK P o t x y gx gy k = true) : ∃ f kd, k f kd = true ∧ OpSpec P n dr (.binOp o t x y yt) f kd := by
  unfold binK at h
  split at h
  · exact intK_t hx hy h
  · exact strOpK_t hx hy h
  · rename_i hu
    split at h
    · exact ⟨_, _, h, .quiet (eqB_ok hx hy hu).1⟩
    · exact ⟨_, _, h, .quiet (eqB_ok hx hy hu).2⟩
    · cases h
  · rename_i e hu
    rcases bi_t h with ⟨hc, h⟩ | ⟨_, h⟩
    · exact eqnK_t (.inl ⟨rfl, rfl, e, hu⟩) hx hy (by simpa using hc) h
    · split at h
      · rename_i hT
        split at h
        · exact ⟨_, _, h, .w (eqP_ok hu hT hx hy).1⟩
        · exact ⟨_, _, h, .w (eqP_ok hu hT hx hy).2⟩
        · cases h
      · cases h
  · rename_i e hu
    obtain ⟨hc, h⟩ := bi_f h
    exact eqnK_t (.inr (.inl ⟨rfl, rfl, e, hu⟩)) hx hy (by simpa using hc) h
  · rename_i k' e hu
    obtain ⟨hc, h⟩ := bi_f h
    exact eqnK_t (.inr (.inr (.inl ⟨rfl, rfl, k', e, hu⟩))) hx hy (by simpa using hc) h
  · rename_i i r b hu
    obtain ⟨hc, h⟩ := bi_f h
    exact eqnK_t (.inr (.inr (.inr (.inl ⟨rfl, rfl, i, r, b, hu⟩)))) hx hy (by simpa using hc) h
  · rename_i m hu
    obtain ⟨hc, h⟩ := bi_f h
    exact eqnK_t (.inr (.inr (.inr (.inr ⟨rfl, rfl, m, hu⟩)))) hx hy (by simpa using hc) h
  · cases h
theorem copK_t {dr : Bool} {op : Op} {k : KO} (h : copK P n dr op k = true) : ∃ f kd, k f kd = true ∧ OpSpec P n dr op f kd := by
  unfold copK at h
  split at h
  · obtain ⟨g, hg, h⟩ := opdK_t h
    exact ⟨_, _, h, .quiet (mv_ok hg)⟩
  · obtain ⟨g, hg, h⟩ := opdK_t h
    exact ⟨_, _, h, .quiet (asg_ok hg)⟩
  · obtain ⟨g1, h1, h⟩ := opdK_t h
    obtain ⟨g2, h2, h⟩ := opdK_t h
    obtain ⟨g3, h3, h⟩ := opdK_t h
    exact ⟨_, _, h, .quiet (pick_ok h1 h2 h3)⟩
  · obtain ⟨zl, zv, h1, h2, h⟩ := zerosK_t h
    exact ⟨_, _, h, .w (alloc_ok h1 h2)⟩
  · obtain ⟨g, hg, h⟩ := opdK_t h
    exact ⟨_, _, h, .w (box_ok hg)⟩
  · obtain ⟨zl, zv, h1, h2, h⟩ := zerosK_t h
    split at h
    · rename_i hu
      split at h
      · rename_i hT
        obtain ⟨b, h3, h⟩ := apartsK_t h
        exact ⟨_, _, h, .quiet (build_ok h2 h3 fun vs r w hf => run_buildA hu hT h1 (by simpa using hf))⟩
      · cases h
    · obtain ⟨hs, h⟩ := bi_f h
      obtain ⟨b, h3, h⟩ := partsK_t h
      obtain ⟨fs, hst⟩ := isStruct_t hs
      exact ⟨_, _, h, .quiet (build_ok h2 h3 fun vs r w hf => run_build' hst h1 hs (by simpa using hf))⟩
  · split at h
    · rename_i hu
      split at h
      · rename_i hT hz
        obtain ⟨h1, h⟩ := bi_f h
        obtain ⟨h2, h⟩ := bi_f h
        obtain ⟨b, h3, h, h4⟩ := seqK_t h
        obtain ⟨h5, h⟩ := bi_f h
        have h5 := beq_t h5
        exact ⟨_, _, h, .w (bsl_ok hu hT hz h3 (fun j p e => by simpa using h4 j p e) (by simpa using h5) (ble_t h1))⟩
      · cases h
    · cases h
  · obtain ⟨g, hg, h⟩ := opdK_t h
    split at h
    · rename_i hT
      obtain ⟨val, h1, h2⟩ := ld1_ok hg hT
      exact ⟨_, _, h, .read h1 h2⟩
    · rename_i hT
      obtain ⟨val, h1, h2⟩ := ldN_ok hg hT
      exact ⟨_, _, h, .read h1 h2⟩
    · cases h
  · obtain ⟨g1, h1, h⟩ := opdK_t h
    obtain ⟨g2, h2, h⟩ := opdK_t h
    split at h
    · rename_i hT
      exact ⟨_, _, h, .w (st_ok hT h1 h2)⟩
    · cases h
  · obtain ⟨g, hg, h⟩ := opdK_t h
    exact ⟨_, _, h, .quiet (nck_ok hg)⟩
  · obtain ⟨g1, h1, h⟩ := opdK_t h
    obtain ⟨g2, h2, h⟩ := opdK_t h
    exact binK_t h1 h2 h
  · obtain ⟨g, hg, h⟩ := opdK_t h
    exact ⟨_, _, h, .quiet (not_ok hg)⟩
  · obtain ⟨g, hg, h⟩ := opdK_t h
    split at h
    · rename_i hs hd
      exact ⟨_, _, h, .quiet (cvR_ok hg hs hd)⟩
    · rcases bi_t h with ⟨h1, h⟩ | ⟨_, h⟩
      · obtain ⟨h2, h⟩ := bi_f h
        exact ⟨_, _, h, .quiet (sv_ok hg (isStr_t h1) (isStr_t h2))⟩
      · obtain ⟨h1, h⟩ := bi_f h
        obtain ⟨h2, h⟩ := bi_f h
        obtain ⟨e, he1, he2⟩ := elemU8_t h1
        obtain ⟨val, h3, h4⟩ := b2s_ok hg he1 he2 (isStr_t h2)
        exact ⟨_, _, h, .read h3 h4⟩
  · obtain ⟨g, hg, h⟩ := opdK_t h
    split at h
    · cases h
    · rename_i d hn hu
      exact ⟨_, _, h, .quiet (mki_ok hg hu fun ms he => hn ms he)⟩
    · cases h
  · have h : posK _ _ = true := h
    rw [posK_eq] at h
    obtain ⟨g1, h1, h⟩ := opdsK_t h
    obtain ⟨g2, h2, h⟩ := opdsK_t h
    exact ⟨_, _, h, .quiet (by simpa using mkf_ok h1 h2)⟩
  · obtain ⟨kt, et, ke, hu, hf, h⟩ := keyK_fit h
    exact ⟨_, _, h, .w (mkm_ok (et := et) hf)⟩
  · obtain ⟨g1, h1, h⟩ := opdK_t h
    obtain ⟨g2, h2, h⟩ := opdK_t h
    split at h
    · rename_i hu
      split at h
      · rename_i hb
        split at h
        · rename_i hT hz
          obtain ⟨hl, h⟩ := bi_f h
          obtain ⟨zl, zv, h3, h4, h9⟩ := zerosK_t h
          rw [h3] at hz
          injection hz with hz
          subst hz
          exact ⟨_, _, h9, .w (mks_ok hu hT hb h3 h4 (beq_t hl) h1 h2)⟩
        · cases h
      · cases h
    · cases h
  · obtain ⟨g, hg, h⟩ := opdK_t h
    obtain ⟨lo, hlo, h⟩ := opdoK_t h
    obtain ⟨hi, hhi, h⟩ := opdoK_t h
    obtain ⟨mx, hmx, h⟩ := opdoK_t h
    obtain ⟨h0, h8⟩ := bi_g h
    clear h
    have h0 : ¬ (hi.isNone = true ∧ mx.isSome = true) := by simpa using h0
    split at h8
    · rename_i hu
      split at h8
      · rename_i hT
        obtain ⟨hs, h8⟩ := bi_f h8
        exact ⟨_, _, h8, .quiet (slS_ok hu hT (ble_t hs) hg hlo hhi hmx h0)⟩
      · cases h8
    · rename_i hu
      split at h8
      · rename_i hT
        exact ⟨_, _, h8, .quiet (slA_ok hu hT hg hlo hhi hmx h0)⟩
      · cases h8
    · rename_i hu
      split at h8
      · rcases hmx with ⟨rfl, _⟩ | ⟨_, _, _, he, _⟩
        · exact ⟨_, _, h8, .quiet (slT_ok hu hg hlo hhi)⟩
        · cases he
      · cases h8
    · cases h8
  · obtain ⟨g, hg, h⟩ := opdK_t h
    split at h
    · rename_i hO
      exact ⟨_, _, h, .quiet (fa_ok hg hO)⟩
    · cases h
  · obtain ⟨g, hg, h⟩ := opdK_t h
    split at h
    · rename_i hT
      exact ⟨_, _, h, .quiet (fd1_ok hg hT)⟩
    · rename_i hT
      exact ⟨_, _, h, .quiet (fdN_ok hg hT)⟩
    · cases h
  · obtain ⟨g1, h1, h⟩ := opdK_t h
    obtain ⟨g2, h2, h⟩ := opdK_t h
    split at h
    · rename_i hu
      split at h
      · rename_i hT
        exact ⟨_, _, h, .quiet (ixs_ok h1 h2 hu hT)⟩
      · cases h
    · rename_i hu
      split at h
      · rename_i hT
        exact ⟨_, _, h, .quiet (ixa_ok h1 h2 hu hT)⟩
      · cases h
    · cases h
  · obtain ⟨g1, h1, h⟩ := opdK_t h
    obtain ⟨g2, h2, h⟩ := opdK_t h
    split at h
    · rename_i hu
      split at h
      · rename_i hT
        exact ⟨_, _, h, .quiet (ixv1_ok h1 h2 hu hT)⟩
      · rename_i hT
        exact ⟨_, _, h, .quiet (ixvN_ok h1 h2 hu hT)⟩
      · cases h
    · rename_i hu
      exact ⟨_, _, h, .quiet (ixt_ok h1 h2 hu)⟩
    · cases h
  · obtain ⟨g1, h1, h⟩ := opdK_t h
    obtain ⟨g2, h2, h⟩ := opdK_t h
    obtain ⟨kt, et, ke, hu, hf, h⟩ := keyK_fit h
    split at h
    · rename_i hu2
      rw [hu] at hu2
      injection hu2 with hu2
      injection hu2 with hu2 hu3
      subst hu2 hu3
      split at h
      · rename_i hz
        obtain ⟨zv, h, hzv⟩ := avK_t h
        obtain ⟨val, h3, h4, h5⟩ := lk_ok hu hf h1 h2 hz hzv
        split at h
        · exact ⟨_, _, h, .read h3 h5⟩
        · exact ⟨_, _, h, .read h3 h4⟩
      · cases h
    · cases h
  · obtain ⟨g1, h1, h⟩ := opdK_t h
    obtain ⟨g2, h2, h⟩ := opdK_t h
    obtain ⟨g3, h3, h⟩ := opdK_t h
    obtain ⟨kt, et, ke, hu, hf, h⟩ := keyK_fit h
    exact ⟨_, _, h, .w (mup_ok hu hf h1 h2 h3).1⟩
  · obtain ⟨g1, h1, h⟩ := opdK_t h
    obtain ⟨g2, h2, h⟩ := opdK_t h
    obtain ⟨g3, h3, h⟩ := opdK_t h
    obtain ⟨kt, et, ke, hu, hf, h⟩ := keyK_fit h
    exact ⟨_, _, h, .w (mup_ok hu hf h1 h2 h3).2⟩
  · obtain ⟨g1, h1, h⟩ := opdK_t h
    obtain ⟨g2, h2, h⟩ := opdK_t h
    obtain ⟨kt, et, ke, hu, hf, h⟩ := keyK_fit h
    split at h
    · rename_i hu2
      rw [hu] at hu2
      injection hu2 with hu2
      injection hu2 with hu2 hu3
      subst hu2 hu3
      split at h
      · rename_i hz
        obtain ⟨zv, h, hzv⟩ := avK_t h
        exact ⟨_, _, h, .w (me_ok hu hf h1 h2 hz hzv)⟩
      · cases h
    · cases h
  · obtain ⟨g1, h1, h⟩ := opdK_t h
    obtain ⟨g2, h2, h⟩ := opdK_t h
    obtain ⟨g3, h3, h⟩ := opdK_t h
    obtain ⟨kt, et, ke, hu, hf, h⟩ := keyK_fit h
    exact ⟨_, _, h, .w (es_ok hu hf h1 h2 h3)⟩
  · obtain ⟨g, hg, h⟩ := opdK_t h
    obtain ⟨kt, et, ke, hu, hf, h⟩ := keyK_fit h
    obtain ⟨hk, h⟩ := bi_f h
    exact ⟨_, _, h, .w (rng_ok hg hu (blt_t hk))⟩
  · obtain ⟨g, hg, h⟩ := opdK_t h
    exact ⟨_, _, h, .w (nx_ok hg)⟩
  · obtain ⟨g, hg, h⟩ := opdK_t h
    exact ⟨_, _, h, .w (en_ok hg)⟩
  · obtain ⟨g, hg, h⟩ := opdK_t h
    exact ⟨_, _, h, .quiet (ext_ok hg)⟩
  · have h : posK _ _ = true := h
    rw [posK_eq] at h
    obtain ⟨gs, h1, h⟩ := opdsK_t h
    exact ⟨_, _, h, .w (by simpa using callG_ok h1)⟩
  · obtain ⟨g, hg, h⟩ := opdK_t h
    obtain ⟨gs, h1, h⟩ := opdsK_t h
    split at h
    · exact ⟨_, _, h, .w (by simpa using callD_ok hg h1)⟩
    · refine ⟨_, _, h, .loud (by simpa using call_ok hg h1) fun e => by cases e⟩
  · obtain ⟨g, hg, h⟩ := opdK_t h
    obtain ⟨gs, h1, h⟩ := opdsK_t h
    obtain ⟨m, h, hm⟩ := methsK_t h
    exact ⟨_, _, h, .w (by simpa using inv_ok hg h1 hm)⟩
  · obtain ⟨g, hg, h⟩ := opdK_t h
    split at h
    · rename_i hu
      exact ⟨_, _, h, .quiet (lenS_ok hg hu)⟩
    · rename_i hu
      exact ⟨_, _, h, .quiet (lenT_ok hg hu)⟩
    · rename_i hu
      obtain ⟨val, h1, h2⟩ := lenM_ok hg hu
      exact ⟨_, _, h, .read h1 h2⟩
    · cases h
  · obtain ⟨g1, h1, h⟩ := opdK_t h
    obtain ⟨g2, h2, h⟩ := opdK_t h
    obtain ⟨he, h8⟩ := bi_f h
    clear h
    have he := beq_t he
    subst he
    split at h8
    · rename_i hu
      split at h8
      · rename_i hT hb hz
        obtain ⟨hs, h9⟩ := bi_f h8
        obtain ⟨hl, h10⟩ := bi_f h9
        exact ⟨_, _, h10, .w (app_ok hu hT hb hz (ble_t hs) (beq_t hl) h1 h2)⟩
      · cases h8
    · cases h8
  · obtain ⟨g1, h1, h⟩ := opdK_t h
    obtain ⟨g2, h2, h⟩ := opdK_t h
    obtain ⟨kt, et, ke, hu, hf, h⟩ := keyK_fit h
    exact ⟨_, _, h, .w (del_ok hu hf h1 h2)⟩
  · obtain ⟨g1, h1, h⟩ := opdK_t h
    obtain ⟨g2, h2, h⟩ := opdK_t h
    split at h
    · exact ⟨_, _, h, .quiet (nMax_ok h1 h2).1⟩
    · cases h
  · obtain ⟨g1, h1, h⟩ := opdK_t h
    obtain ⟨g2, h2, h⟩ := opdK_t h
    split at h
    · exact ⟨_, _, h, .quiet (nMax_ok h1 h2).2⟩
    · cases h
  · cases h
theorem copA_t {dr : Bool} {op : Op} {k : KO} (ha : allocOp op = true) (h : copK P n dr op k = true) : ∃ f kd, k f kd = true ∧ WOk P n op f ∧ AOk P n op f := by
  cases op <;> first | (cases ha; done) | skip
  case alloc t =>
    have h : (zerosK P t fun z => k (opAlloc z t) .loud) = true := h
    obtain ⟨zl, zv, h1, h2, h⟩ := zerosK_t h
    exact ⟨_, _, h, alloc_ok h1 h2, alloc_aok h1 h2⟩
  case box t x =>
    have h : (opdK n x fun g => k (opBox t g) .loud) = true := h
    obtain ⟨g, hg, h⟩ := opdK_t h
    exact ⟨_, _, h, box_ok hg, box_aok hg⟩
  case buildSlice t len ps =>
    have h : (match P.underlying t with
      | some (.slice e) => (match tyOf P e, zeroVal P e with
        | some (_, s), some _ => bi (Nat.ble (Nat.mul len s) 16777216) (bi (Nat.ble 1 s) (seqK n s 0 ps.toList fun c b => bi (Nat.beq c len) (k (opBsl e len b) .loud) false) false) false
        | _, _ => false)
      | _ => false) = true := h
    split at h
    · rename_i hu
      split at h
      · rename_i hT hz
        obtain ⟨h1, h⟩ := bi_f h
        obtain ⟨h2, h⟩ := bi_f h
        obtain ⟨b, h3, h, h4⟩ := seqK_t h
        obtain ⟨h5, h⟩ := bi_f h
        have h5 := beq_t h5
        exact ⟨_, _, h, bsl_ok hu hT hz h3 (fun j p e => by simpa using h4 j p e) (by simpa using h5) (ble_t h1), bsl_aok hu hT hz h3 (fun j p e => by simpa using h4 j p e) (by simpa using h5) (ble_t h1)⟩
      · cases h
    · cases h
end
end Go.Rc
