/- RcH: quiet operations. -/
import Derived.Test.YtomgkmoecbnddaaRcG
set_option linter.unusedVariables false
set_option linter.unusedSimpArgs false
set_option linter.unnecessarySimpa false
namespace Go.Rc
open Go Go.Sym
section
variable {P : Program} {n : Nat} {x y c : Operand} {g gx gy gc : G}
theorem mv_ok (hx : GOk n x g) : QOk P n (.move x) (opMv g) noRn := ⟨fun cf rb fr h k E R σ a w e hf _ => by
  obtain ⟨val, h1, h2⟩ := hx.ex
  exact ⟨_, _, h1 _ _ e, h2 σ fr a hf, fun w' o ho _ => by simp [execOp, ho]⟩⟩
theorem asg_ok (hx : GOk n x g) : QOk P n (.assign x) (opMv g) noRn := ⟨fun cf rb fr h k E R σ a w e hf _ => by
  obtain ⟨val, h1, h2⟩ := hx.ex
  exact ⟨_, _, h1 _ _ e, h2 σ fr a hf, fun w' o ho _ => by simp [execOp, ho]⟩⟩
theorem pick_ok (hc : GOk n c gc) (hx : GOk n x gx) (hy : GOk n y gy) : QOk P n (.pick c x y) (opPick gc gx gy) noRn := ⟨fun cf rb fr h k E R σ a w e hf _ => by
  obtain ⟨vc, c1, c2⟩ := hc.ex
  obtain ⟨vx, x1, x2⟩ := hx.ex
  obtain ⟨vy, y1, y2⟩ := hy.ex
  have e := c1 _ _ e
  have hr := c2 σ fr a hf
  obtain ⟨ca, cb, cd, cp, cl, cr, hv, e⟩ := onBool_t e
  rw [hv] at hr
  obtain ⟨b, hb, hb2⟩ := hr.c0
  rcases e with ⟨h1, e⟩ | ⟨h1, e⟩
  · obtain rfl : b = true := by cases b <;> simp_all
    exact ⟨_, _, x1 _ _ e, x2 σ fr a hf, fun w' o ho _ => by simp [execOp, ho, hb, asBool]⟩
  · obtain rfl : b = false := by cases b <;> simp_all
    exact ⟨_, _, y1 _ _ e, y2 σ fr a hf, fun w' o ho _ => by simp [execOp, ho, hb, asBool]⟩⟩
theorem not_ok (hx : GOk n x g) {t : TypeId} : QOk P n (.unOp .not t x) (opNot g) noRn := ⟨fun cf rb fr h k E R σ a w e hf _ => by
  obtain ⟨val, h1, h2⟩ := hx.ex
  have e := h1 _ _ e
  have hr := h2 σ fr a hf
  obtain ⟨ca, cb, cd, cp, cl, cr, hv, e⟩ := onBool_t e
  rw [hv] at hr
  obtain ⟨b, hb, hb2⟩ := hr.c0
  rcases e with ⟨h1, e⟩ | ⟨h1, e⟩
  · obtain rfl : b = true := by cases b <;> simp_all
    exact ⟨_, .bool false, e, .ff σ, fun w' o ho _ => by simp [execOp, ho, hb, Op.unary]⟩
  · obtain rfl : b = false := by cases b <;> simp_all
    exact ⟨_, .bool true, e, .tt σ, fun w' o ho _ => by simp [execOp, ho, hb, Op.unary]⟩⟩
/-- cells of a block that is read -/
theorem reads_cells {E : Env} {R : List Blk} {σ : Sg} {h : Hp} {w w' : World} {fr : T} {rn : T → Pos → Prop} (H : HR P E R σ h w) {p : Pos} {t e : Nat} {q : Pos} {l : V} (ht : t = 1 ∨ t = 2) (ha : h.t.at p = .o t e q l) (hn : rn fr p) (hs : ReadsSame rn σ fr h w w') {bb : Nat} {c : Gh} (hb : σ p = some (bb, c)) :
    ∃ vl junk, w'.heap[bb]? = some (.cells (vl ++ junk).toArray e (0, 0)) ∧ RelL σ l vl := by
  obtain ⟨b, c', vl, junk, h1, h2, h3, h4, _⟩ := H.cells ht ha
  rw [hb] at h2; injection h2 with h2; injection h2 with h2 _
  subst h2
  exact ⟨vl, junk, by rw [hs p _ c hn h1 hb]; exact h3, h4⟩
theorem ld1_ok (hx : GOk n x g) {t : TypeId} (hT : tyOf P t = some (false, 1)) : ∃ val, (∀ fr k, g fr k = true → k (val fr) = true) ∧ QOk P n (.load t x) (opLd1 g) (valRn val) := by
  obtain ⟨val, h1, h2⟩ := hx.ex
  refine ⟨val, h1, ⟨fun cf rb fr h k E R σ a w e hf H => ?_⟩⟩
  have e := h1 _ _ e
  have hr := h2 σ fr a hf
  obtain ⟨o, b, d, p, l, r, hv, e⟩ := onPtr_t e
  rw [hv] at hr
  obtain ⟨bb, c, hx, hs⟩ := hr.c2
  obtain ⟨ct, ce, cq, cl, hct, hat, e⟩ := hcells_t e
  obtain ⟨v, hk, hn⟩ := nthK_t e
  obtain ⟨b1, c1, vl0, junk0, _, hs1, hw0, hrl0, _⟩ := H.cells hct hat
  obtain ⟨z, hz, hzr⟩ := hn σ vl0 hrl0
  refine ⟨v, z, hk, hzr, fun w' op ho hsame => ?_⟩
  have hread : w'.heap[bb]? = some (.cells (vl0 ++ junk0).toArray ce (0, 0)) := by
    rw [hs] at hs1; injection hs1 with hs1; injection hs1 with hs1 _
    subst hs1
    rw [hsame p bb c ⟨_, _, _, _, _, _, hv⟩ (by unfold Live; rw [hat]; simp) hs]; exact hw0
  have hlt := (List.getElem?_eq_some_iff.1 hz).1
  simp only [execOp, ho, hx, Instr.loadAt, Instr.sureAddr, Sem.run_bind, Sem.run_pure, Result.andThen_ok]
  rw [run_load1 (P := P) hT hread (by rw [List.getElem?_append_left hlt]; exact hz)]
  rfl
theorem ldN_ok (hx : GOk n x g) {t : TypeId} {m : Nat} (hT : tyOf P t = some (true, m)) : ∃ val, (∀ fr k, g fr k = true → k (val fr) = true) ∧ QOk P n (.load t x) (opLdN m g) (valRn val) := by
  obtain ⟨val, h1, h2⟩ := hx.ex
  refine ⟨val, h1, ⟨fun cf rb fr h k E R σ a w e hf H => ?_⟩⟩
  have e := h1 _ _ e
  have hr := h2 σ fr a hf
  obtain ⟨o, b, d, p, l, r, hv, e⟩ := onPtr_t e
  rw [hv] at hr
  obtain ⟨bb, c, hx, hs⟩ := hr.c2
  obtain ⟨ct, ce, cq, cl, hct, hat, e⟩ := hcells_t e
  obtain ⟨v, hk, hn⟩ := subK_t e
  obtain ⟨b1, c1, vl0, junk0, _, hs1, hw0, hrl0, _⟩ := H.cells hct hat
  obtain ⟨hlen, hzr⟩ := hn σ vl0 hrl0
  refine ⟨_, _, hk, .agg hzr, fun w' op ho hsame => ?_⟩
  have hread : w'.heap[bb]? = some (.cells (vl0 ++ junk0).toArray ce (0, 0)) := by
    rw [hs] at hs1; injection hs1 with hs1; injection hs1 with hs1 _
    subst hs1
    rw [hsame p bb c ⟨_, _, _, _, _, _, hv⟩ (by unfold Live; rw [hat]; simp) hs]; exact hw0
  have hrl : ((vl0.drop o).take m).length = m := by simp; omega
  simp only [execOp, ho, hx, Instr.loadAt, Instr.sureAddr, Sem.run_bind, Sem.run_pure, Result.andThen_ok]
  rw [run_loadN (P := P) (r := (vl0.drop o).take m) hT hread (fun j hj => ?_) hrl]
  · rfl
  · rw [hrl] at hj
    rw [List.getElem?_append_left (by omega), List.getElem?_take_of_lt hj, List.getElem?_drop]
theorem nck_ok (hx : GOk n x g) : QOk P n (.nilCheck x) (opNck g) noRn := ⟨fun cf rb fr h k E R σ a w e hf _ => by
  obtain ⟨val, h1, h2⟩ := hx.ex
  have e := h1 _ _ e
  have hr := h2 σ fr a hf
  obtain ⟨t, ca, cb, cd, cp, cl, cr, hv, e⟩ := onC_t e
  rcases bi_t e with ⟨ht, e⟩ | ⟨ht, e⟩
  · have ht := beq_t ht
    subst ht
    have hr' := hr
    rw [hv] at hr
    obtain ⟨bb, c, hx, hs⟩ := hr.c2
    exact ⟨_, _, e, hr', fun w' o ho _ => by simp [execOp, ho, hx]⟩
  · rcases bi_t e with ⟨ht, e⟩ | ⟨ht, e⟩
    · have ht := beq_t ht
      subst ht
      have hr' := hr
      rw [hv] at hr
      obtain ⟨u, hx, hs⟩ := hr.c11
      exact ⟨_, _, e, hr', fun w' o ho _ => by simp [execOp, ho, hx]⟩
    · obtain ⟨ht, e⟩ := bi_f e
      have ht := beq_t ht
      subst ht
      have hr' := hr
      rw [hv] at hr
      obtain ⟨gi, fl, cl, hx, _, _, _⟩ := hr.c7
      exact ⟨_, _, e, hr', fun w' o ho _ => by simp [execOp, ho, hx]⟩⟩
theorem mki_ok (hx : GOk n x g) {t : TypeId} {d : TypeDesc} (hd : P.underlying t = some d) (hi : ∀ ms, d ≠ .interface ms) : QOk P n (.makeInterface t x) (opMki t g) noRn := ⟨fun cf rb fr h k E R σ a w e hf _ => by
  obtain ⟨val, h1, h2⟩ := hx.ex
  have e := h1 _ _ e
  refine ⟨_, .iface t (a.eval x), e, .ifc (h2 σ fr a hf), fun w' o ho _ => ?_⟩
  have : (Instr.makeInterface t (a.eval x)).run P w' = .ok (.iface t (a.eval x)) w' := by
    unfold Instr.makeInterface
    rw [Sem.run_bind, run_underlying hd]
    cases d <;> first | rfl | exact absurd rfl (hi _)
  simp [execOp, ho, this]⟩
theorem ext_ok (hx : GOk n x g) {i : Nat} : QOk P n (.extract x i) (opExt i g) noRn := ⟨fun cf rb fr h k E R σ a w e hf _ => by
  obtain ⟨val, h1, h2⟩ := hx.ex
  have e := h1 _ _ e
  have hr := h2 σ fr a hf
  obtain ⟨ca, cb, cd, cp, cl, cr, hv, e⟩ := onTup_t e
  rw [hv] at hr
  obtain ⟨vl, hx, hl⟩ := hr.c14
  obtain ⟨v, hk, hn⟩ := nthK_t e
  obtain ⟨z, hz, hzr⟩ := hn σ vl hl
  exact ⟨v, z, hk, hzr, fun w' o ho _ => by simp [execOp, ho, hx, Instr.extract, hz]⟩⟩
theorem fa_ok (hx : GOk n x g) {s i o : Nat} (hO : fieldOff P s i = some o) : QOk P n (.fieldAddr s x i) (opFa o g) noRn := ⟨fun cf rb fr h k E R σ a w e hf _ => by
  obtain ⟨val, h1, h2⟩ := hx.ex
  have e := h1 _ _ e
  have hr := h2 σ fr a hf
  obtain ⟨oo, b, d, p, l, r, hv, e⟩ := onPtr_t e
  rw [hv] at hr
  obtain ⟨bb, c, hx, hs⟩ := hr.c2
  rw [fN_eq] at e
  refine ⟨_, .pointer (some ⟨bb, oo + o, none⟩), e, .ptr hs, fun w' op ho _ => ?_⟩
  have h3 := (ex_fieldAddr (P := P) (E := ((w'.os, w'.output) : Env)) (f := fun _ => a.eval x) (L := []) (d := 0) (ty := 0) (pos := "") (after := #[]) (x := .tmp 0) (s := s) (i := i) (b := bb) (k := oo) (Ev.base ⟨hx⟩) hO).out w' ⟨rfl, by simp, by simp⟩
  simp only [execOp, evO] at h3
  simp only [execOp, ho]
  exact h3⟩
end
end Go.Rc
