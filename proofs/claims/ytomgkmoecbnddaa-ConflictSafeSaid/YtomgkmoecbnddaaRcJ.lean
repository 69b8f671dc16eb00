/- RcJ: quiet operations: structs, arrays, slices, strings, comparisons of other kinds, maps that are read. -/
import Derived.Test.YtomgkmoecbnddaaRcI
set_option linter.unusedVariables false
set_option linter.unusedSimpArgs false
set_option linter.unnecessarySimpa false
namespace Go.Rc
open Go Go.Sym

theorem nth_of : ∀ {l : List Value} {k : Nat} {v : Value}, l[k]? = some v → Nth l k v
  | [], k, v, h => by simp at h
  | u :: l, 0, v, h => by simp at h; subst h; exact .zero
  | u :: l, k + 1, v, h => .succ (nth_of (by simpa using h))
theorem sub_of : ∀ {l : List Value} {o m : Nat}, o + m ≤ l.length → Sub l o m ((l.drop o).take m)
  | l, 0, 0, _ => by simpa using Sub.nil
  | [], 0, m + 1, h => by simp at h
  | u :: l, 0, m + 1, h => by simpa using Sub.take (sub_of (l := l) (o := 0) (m := m) (by simp at h ⊢; omega))
  | [], o + 1, m, h => by simp at h
  | u :: l, o + 1, m, h => by simpa using Sub.drop (sub_of (l := l) (o := o) (m := m) (by simp at h; omega))
theorem ev_of (a : Act) (x : Operand) : Ev (fun t => a.tmps.getD t undef) x (a.eval x) := by
  cases x with
  | tmp t => exact .base ⟨rfl⟩
  | const v => exact .const
  | global g => exact .global
  | func f => exact .func
theorem evO_eq (a : Act) : evO (fun t => a.tmps.getD t undef) = a.eval := by funext x; cases x <;> rfl
/-- a law on an operation that leaves every world alone -/
theorem of_ex {P : Program} {a : Act} {op : Op} {v : Value} (h : ∀ E ty pos after, Ex P E (fun t => a.tmps.getD t undef) [] ⟨some 0, op, ty, pos, after, none⟩ v) (w : World) (o : Oper) (ho : o.op = op) : (execOp a.eval o).run P w = .ok (.value v) w := by
  have h1 := (h (w.os, w.output) o.type o.pos o.after).out w ⟨rfl, by simp, by simp⟩
  rw [evO_eq] at h1
  obtain ⟨dst, op', ty, pos, after, gd⟩ := o
  subst ho
  exact h1
section
variable {P : Program} {n : Nat} {x y c : Operand} {g gx gy gc : G} {t yt : TypeId}
theorem fd1_ok (hx : GOk n x g) {s i o m : Nat} (ht : fieldTy P s i = some (o, false, m)) : QOk P n (.field s x i) (opFd1 o g) noRn := ⟨fun cf rb fr h k E R σ a w e hf _ => by
  obtain ⟨val, h1, h2⟩ := hx.ex
  have e := h1 _ _ e
  have hr := h2 σ fr a hf
  obtain ⟨ca, cb, cd, cp, cl, cr, hv, e⟩ := onAgg_t e
  rw [hv] at hr
  obtain ⟨vl, hxv, hl⟩ := hr.c12
  obtain ⟨v, hk, hn⟩ := nthK_t e
  obtain ⟨z, hz, hzr⟩ := hn σ vl hl
  exact ⟨v, z, hk, hzr, fun w' op ho _ => of_ex (fun E ty pos after => ex_field1 (hxv ▸ ev_of a x) ht (nth_of hz)) w' op ho⟩⟩
theorem fdN_ok (hx : GOk n x g) {s i o m : Nat} (ht : fieldTy P s i = some (o, true, m)) : QOk P n (.field s x i) (opFdN o m g) noRn := ⟨fun cf rb fr h k E R σ a w e hf _ => by
  obtain ⟨val, h1, h2⟩ := hx.ex
  have e := h1 _ _ e
  have hr := h2 σ fr a hf
  obtain ⟨ca, cb, cd, cp, cl, cr, hv, e⟩ := onAgg_t e
  rw [hv] at hr
  obtain ⟨vl, hxv, hl⟩ := hr.c12
  obtain ⟨v, hk, hn⟩ := subK_t e
  obtain ⟨hlen, hzr⟩ := hn σ vl hl
  exact ⟨_, _, hk, .agg hzr, fun w' op ho _ => of_ex (fun E ty pos after => ex_fieldN (hxv ▸ ev_of a x) ht (sub_of hlen)) w' op ho⟩⟩
/-- an index -/
theorem idx_val {σ : Sg} {i b d : Nat} {p : Pos} {l r : V} {z : Value} (hr : Rel σ (.c 1 i b d p l r) z) (h1 : i < 9223372036854775808) (h3 : 3 ≤ b) : ∃ q : IntKind, z = .int q i := by
  obtain ⟨q, hz, hq, hm⟩ := hr.c1
  exact ⟨q, by rw [hz, onNat_val hq h3 h1 hm]⟩
theorem ixs_ok (hx : GOk n x gx) (hy : GOk n y gy) {et : TypeId} {ag : Bool} {s : Nat} (ht : P.underlying t = some (.slice et)) (hT : tyOf P et = some (ag, s)) : QOk P n (.indexAddr t x y) (opIxs s gx gy) noRn := ⟨fun cf rb fr h k E R σ a w e hf _ => by
  obtain ⟨vx, x1, x2⟩ := hx.ex
  obtain ⟨vy, y1, y2⟩ := hy.ex
  have e := x1 _ _ e
  have hr := x2 σ fr a hf
  obtain ⟨o, len, d, p, l, r, hv, e⟩ := onSl_t e
  rw [hv] at hr
  obtain ⟨bb, c, cap, hxv, hs, hle, _⟩ := hr.c4
  have e := y1 _ _ e
  have hr2 := y2 σ fr a hf
  obtain ⟨i, kb, _, _, _, _, hv2, hi1, hi3, e⟩ := onNat_t e
  rw [hv2] at hr2
  obtain ⟨q, hyv⟩ := idx_val hr2 hi1 hi3
  obtain ⟨hlt, e⟩ := bi_f e
  have hlt := blt_t hlt
  rw [fN_eq] at e
  exact ⟨_, _, e, .ptr hs, fun w' op ho _ => of_ex (fun E ty pos after => ex_indexAddr (hxv ▸ ev_of a x) (hyv ▸ ev_of a y) ⟨ht⟩ hT rfl hlt) w' op ho⟩⟩
theorem ixa_ok (hx : GOk n x gx) (hy : GOk n y gy) {et : TypeId} {ag : Bool} {s len : Nat} (ht : P.underlying t = some (.array len et)) (hT : tyOf P et = some (ag, s)) : QOk P n (.indexAddr t x y) (opIxa len s gx gy) noRn := ⟨fun cf rb fr h k E R σ a w e hf _ => by
  obtain ⟨vx, x1, x2⟩ := hx.ex
  obtain ⟨vy, y1, y2⟩ := hy.ex
  have e := x1 _ _ e
  have hr := x2 σ fr a hf
  obtain ⟨o, _, d, p, l, r, hv, e⟩ := onPtr_t e
  rw [hv] at hr
  obtain ⟨bb, c, hxv, hs⟩ := hr.c2
  have e := y1 _ _ e
  have hr2 := y2 σ fr a hf
  obtain ⟨i, kb, _, _, _, _, hv2, hi1, hi3, e⟩ := onNat_t e
  rw [hv2] at hr2
  obtain ⟨q, hyv⟩ := idx_val hr2 hi1 hi3
  obtain ⟨hlt, e⟩ := bi_f e
  have hlt := blt_t hlt
  rw [fN_eq] at e
  exact ⟨_, _, e, .ptr hs, fun w' op ho _ => of_ex (fun E ty pos after => ex_indexArr (hxv ▸ ev_of a x) (hyv ▸ ev_of a y) ⟨ht⟩ hT rfl hlt) w' op ho⟩⟩
theorem run_part1 {t : TypeId} {m : Nat} {cs : Array Value} {o : Nat} {v : Value} {w : World} (hT : tyOf P t = some (false, m)) (h : cs[o]? = some v) : (part t cs o).run P w = .ok v w := by
  simp [part, run_aggT hT, h]
theorem run_partN {t : TypeId} {m : Nat} {cs : Array Value} {o : Nat} {w : World} (hT : tyOf P t = some (true, m)) : (part t cs o).run P w = .ok (.agg (cs.extract o (o + m))) w := by
  simp [part, run_aggT hT, run_sizeT hT]
theorem run_index {t et : TypeId} {len i : Nat} {ag : Bool} {s : Nat} {cs : Array Value} {q : IntKind} {z : Value} {w : World} (ht : P.underlying t = some (.array len et)) (hT : tyOf P et = some (ag, s)) (hi : i < len) (hp : (part et cs (i * s)).run P w = .ok z w) :
    (Instr.index t (.agg cs) (.int q i)).run P w = .ok z w := by
  have h1 : (0 : Int) ≤ (i : Int) ∧ (i : Int) < (len : Int) := by omega
  simp [Instr.index, asIntOf, run_underlying ht, hi, run_sizeT hT, hp]
theorem ixv1_ok (hx : GOk n x gx) (hy : GOk n y gy) {et : TypeId} {s len : Nat} (ht : P.underlying t = some (.array len et)) (hT : tyOf P et = some (false, s)) : QOk P n (.index t x y) (opIxv1 len s gx gy) noRn := ⟨fun cf rb fr h k E R σ a w e hf _ => by
  obtain ⟨vx, x1, x2⟩ := hx.ex
  obtain ⟨vy, y1, y2⟩ := hy.ex
  have e := x1 _ _ e
  have hr := x2 σ fr a hf
  obtain ⟨_, _, _, _, l, _, hv, e⟩ := onAgg_t e
  rw [hv] at hr
  obtain ⟨vl, hxv, hl⟩ := hr.c12
  have e := y1 _ _ e
  have hr2 := y2 σ fr a hf
  obtain ⟨i, kb, _, _, _, _, hv2, hi1, hi3, e⟩ := onNat_t e
  rw [hv2] at hr2
  obtain ⟨q, hyv⟩ := idx_val hr2 hi1 hi3
  obtain ⟨hlt, e⟩ := bi_f e
  have hlt := blt_t hlt
  obtain ⟨v, hk, hn⟩ := nthK_t e
  obtain ⟨z, hz, hzr⟩ := hn σ vl hl
  refine ⟨v, z, hk, hzr, fun w' op ho _ => ?_⟩
  have := run_index (P := P) (q := q) (cs := vl.toArray) (w := w') ht hT hlt (run_part1 hT (by simpa using hz))
  simp only [execOp, ho, hxv, hyv]
  rw [Sem.run_bind, this]; rfl⟩
theorem ixvN_ok (hx : GOk n x gx) (hy : GOk n y gy) {et : TypeId} {s len : Nat} (ht : P.underlying t = some (.array len et)) (hT : tyOf P et = some (true, s)) : QOk P n (.index t x y) (opIxvN len s gx gy) noRn := ⟨fun cf rb fr h k E R σ a w e hf _ => by
  obtain ⟨vx, x1, x2⟩ := hx.ex
  obtain ⟨vy, y1, y2⟩ := hy.ex
  have e := x1 _ _ e
  have hr := x2 σ fr a hf
  obtain ⟨_, _, _, _, l, _, hv, e⟩ := onAgg_t e
  rw [hv] at hr
  obtain ⟨vl, hxv, hl⟩ := hr.c12
  have e := y1 _ _ e
  have hr2 := y2 σ fr a hf
  obtain ⟨i, kb, _, _, _, _, hv2, hi1, hi3, e⟩ := onNat_t e
  rw [hv2] at hr2
  obtain ⟨q, hyv⟩ := idx_val hr2 hi1 hi3
  obtain ⟨hlt, e⟩ := bi_f e
  have hlt := blt_t hlt
  obtain ⟨v, hk, hn⟩ := subK_t e
  obtain ⟨hlen, hzr⟩ := hn σ vl hl
  refine ⟨_, _, hk, .agg hzr, fun w' op ho _ => ?_⟩
  have := run_index (P := P) (q := q) (cs := vl.toArray) (w := w') ht hT hlt (run_partN hT)
  simp only [execOp, ho, hxv, hyv]
  rw [Sem.run_bind, this]
  have e2 : vl.toArray.extract (i * s) (i * s + s) = ((vl.drop (i * s)).take s).toArray := by
    simp [List.extract_eq_take_drop]
  rw [e2]; rfl⟩
theorem ixt_ok (hx : GOk n x gx) (hy : GOk n y gy) (ht : P.underlying t = some .string) : QOk P n (.index t x y) (opIxt gx gy) noRn := ⟨fun cf rb fr h k E R σ a w e hf _ => by
  obtain ⟨vx, x1, x2⟩ := hx.ex
  obtain ⟨vy, y1, y2⟩ := hy.ex
  have e := x1 _ _ e
  have hr := x2 σ fr a hf
  obtain ⟨tg, sa, sn, _, _, _, _, hv, e⟩ := onC_t e
  obtain ⟨htg, e⟩ := bi_f e
  have htg := beq_t htg
  subst htg
  rw [hv] at hr
  obtain ⟨s, hxv, rfl, rfl⟩ := hr.c6
  have e := y1 _ _ e
  have hr2 := y2 σ fr a hf
  obtain ⟨i, kb, _, _, _, _, hv2, hi1, hi3, e⟩ := onNat_t e
  rw [hv2] at hr2
  obtain ⟨q, hyv⟩ := idx_val hr2 hi1 hi3
  obtain ⟨hlt, e⟩ := bi_f e
  have hlt := blt_t hlt
  rw [fN_eq] at e
  have hl2 : i < s.data.toList.length := by simpa using hlt
  have hget : s[i]? = some s.data.toList[i] := by
    rw [getElem?_pos s i hlt]; rfl
  refine ⟨_, .int .u8 (s.data.toList[i]).toNat, e, .int (q := .u8) rfl (Nat.mod_lt _ (by decide)) ?_, fun w' op ho _ => ?_⟩
  · show _ = IntKind.u8.wrap ((strNum s.data.toList / 256 ^ i % 256 : Nat) : Int)
    rw [← strNum_get _ i hl2, wrap_u8 (UInt8.toNat_lt _)]
  · have : (Instr.index t (.string s) (.int q i)).run P w' = .ok (.int .u8 (s.data.toList[i]).toNat) w' := by
      simp [Instr.index, asIntOf, run_underlying ht, hget]
    simp only [execOp, ho, hxv, hyv]
    rw [Sem.run_bind, this]; rfl⟩
theorem eqB_ok (hx : GOk n x gx) (hy : GOk n y gy) (ht : P.underlying t = some .bool) : QOk P n (.binOp .eql t x y yt) (opEqB vT vF gx gy) noRn ∧ QOk P n (.binOp .neq t x y yt) (opEqB vF vT gx gy) noRn := by
  obtain ⟨vx, x1, x2⟩ := hx.ex
  obtain ⟨vy, y1, y2⟩ := hy.ex
  have key : ∀ (tv fv : V) cf rb fr h k E R σ a w, opEqB tv fv gx gy cf rb fr h k = true → FrOk σ n fr a → HR P E R σ h w → ∃ p q : Bool, a.eval x = .bool p ∧ a.eval y = .bool q ∧ k (if p == q then tv else fv) h = true := fun tv fv cf rb fr h k E R σ a w e hf _ => by
    have e1 := x1 _ _ e
    have hr := x2 σ fr a hf
    obtain ⟨tg, na, _, _, _, _, _, hv, e2⟩ := onC_t e1
    obtain ⟨htg, e3⟩ := bi_f e2
    have htg := beq_t htg
    rw [hv, htg] at hr
    obtain ⟨p, hxv, hp⟩ := hr.c0
    have e4 := y1 _ _ e3
    have hr2 := y2 σ fr a hf
    obtain ⟨tg2, nb, _, _, _, _, _, hv2, e5⟩ := onC_t e4
    obtain ⟨htg2, e6⟩ := bi_f e5
    have htg2 := beq_t htg2
    rw [hv2, htg2] at hr2
    obtain ⟨q, hyv, hq⟩ := hr2.c0
    refine ⟨p, q, hxv, hyv, ?_⟩
    rcases bi_t e6 with ⟨h1, e⟩ | ⟨h1, e⟩
    · have h1 := beq_t h1
      have : p = q := by rw [hp, hq] at h1; cases p <;> cases q <;> first | rfl | cases h1
      subst this; simpa using e
    · have h1 := beq_f h1
      have : (p == q) = false := by rw [hp, hq] at h1; cases p <;> cases q <;> first | rfl | exact absurd rfl h1
      rw [this]; exact e
  refine ⟨⟨fun cf rb fr h k E R σ a w e hf H => ?_⟩, ⟨fun cf rb fr h k E R σ a w e hf H => ?_⟩⟩
  · obtain ⟨p, q, hp, hq, hk⟩ := key _ _ _ _ _ _ _ _ _ _ _ _ e hf H
    exact ⟨_, .bool (p == q), hk, rel_b σ _, fun w' o ho _ => of_ex (fun E ty pos after => ex_eqb (hp ▸ ev_of a x) (hq ▸ ev_of a y) ⟨ht⟩ rfl) w' o ho⟩
  · obtain ⟨p, q, hp, hq, hk⟩ := key _ _ _ _ _ _ _ _ _ _ _ _ e hf H
    refine ⟨_, .bool (p != q), hk, ?_, fun w' o ho _ => of_ex (fun E ty pos after => ex_neb (hp ▸ ev_of a x) (hq ▸ ev_of a y) ⟨ht⟩ rfl) w' o ho⟩
    cases p <;> cases q <;> first | exact .ff σ | exact .tt σ
theorem mkf_ok {gi : Nat} {xs ys : List Operand} {gs hs : List G} (h1 : GsOk n xs gs) (h2 : GsOk n ys hs) : QOk P n (.makeFunc (.func gi) xs.toArray ys.toArray) (opMkf (posOf gi) gs hs) noRn := ⟨fun cf rb fr h k E R σ a w e hf _ => by
  obtain ⟨q1, e, r1⟩ := evsK_t h1 e
  obtain ⟨q2, e, r2⟩ := evsK_t h2 e
  refine ⟨_, _, e, .fn rfl (r1 σ a hf) (r2 σ a hf), fun w' o ho _ => ?_⟩
  simp [execOp, ho, Instr.makeFunc]⟩
theorem nMax_ok {q : IntKind} (hx : GOk n x gx) (hy : GOk n y gy) {tys : Array TypeId} : QOk P n (.call ⟨.builtin .max, #[x, y], tys⟩) (bin2 (kc q) gx gy (nMax (kmod q) (ksg q) (kc q))) noRn ∧ QOk P n (.call ⟨.builtin .min, #[x, y], tys⟩) (bin2 (kc q) gx gy (nMin (kmod q) (ksg q) (kc q))) noRn := by
  obtain ⟨vx, x1, x2⟩ := hx.ex
  obtain ⟨vy, y1, y2⟩ := hy.ex
  have key : ∀ (f : Nat → Nat → (V → Bool) → Bool) cf rb fr h k E R σ a w, bin2 (kc q) gx gy f cf rb fr h k = true → FrOk σ n fr a → HR P E R σ h w → ∃ na nb : Nat, a.eval x = .int q (q.wrap na) ∧ a.eval y = .int q (q.wrap nb) ∧ na < kmod q ∧ nb < kmod q ∧ f na nb (fun r => k r h) = true := fun f cf rb fr h k E R σ a w e hf _ => by
    have e := x1 _ _ e
    have hr := x2 σ fr a hf
    obtain ⟨na, _, _, _, _, hv, e⟩ := onInt_t e
    rw [hv] at hr
    obtain ⟨q1, hxv, hq1, ha⟩ := hr.c1
    have e := y1 _ _ e
    have hr2 := y2 σ fr a hf
    obtain ⟨nb, _, _, _, _, hv2, e⟩ := onInt_t e
    rw [hv2] at hr2
    obtain ⟨q2, hyv, hq2, hb⟩ := hr2.c1
    have e1 := kc_inj hq1
    have e2 := kc_inj hq2
    subst e1 e2
    exact ⟨na, nb, hxv, hyv, ha, hb, e⟩
  refine ⟨⟨fun cf rb fr h k E R σ a w e hf H => ?_⟩, ⟨fun cf rb fr h k E R σ a w e hf H => ?_⟩⟩
  · obtain ⟨na, nb, hxv, hyv, ha, hb, e⟩ := key _ _ _ _ _ _ _ _ _ _ _ e hf H
    rcases bi_t e with ⟨h1, e⟩ | ⟨h1, e⟩
    · have h1 := (lt_iff ha hb).1 (blt_t h1)
      exact ⟨_, _, e, .int rfl hb rfl, fun w' o ho _ => of_ex (fun E ty pos after => ex_max (hxv ▸ ev_of a x) (hyv ▸ ev_of a y) (if_pos h1)) w' o ho⟩
    · have h1 := blt_f h1
      have h1 : ¬ q.wrap nb > q.wrap na := fun h2 => absurd ((lt_iff ha hb).2 h2) (by have : (nb + ksg q) % kmod q ≤ (na + ksg q) % kmod q := h1; omega)
      exact ⟨_, _, e, .int rfl ha rfl, fun w' o ho _ => of_ex (fun E ty pos after => ex_max (hxv ▸ ev_of a x) (hyv ▸ ev_of a y) (if_neg h1)) w' o ho⟩
  · obtain ⟨na, nb, hxv, hyv, ha, hb, e⟩ := key _ _ _ _ _ _ _ _ _ _ _ e hf H
    rcases bi_t e with ⟨h1, e⟩ | ⟨h1, e⟩
    · have h1 := (lt_iff hb ha).1 (blt_t h1)
      exact ⟨_, _, e, .int rfl hb rfl, fun w' o ho _ => of_ex (fun E ty pos after => ex_min (hxv ▸ ev_of a x) (hyv ▸ ev_of a y) (if_pos h1)) w' o ho⟩
    · have h1 := blt_f h1
      have h1 : ¬ q.wrap nb < q.wrap na := fun h2 => absurd ((lt_iff hb ha).2 h2) (by have : (na + ksg q) % kmod q ≤ (nb + ksg q) % kmod q := h1; omega)
      exact ⟨_, _, e, .int rfl ha rfl, fun w' o ho _ => of_ex (fun E ty pos after => ex_min (hxv ▸ ev_of a x) (hyv ▸ ev_of a y) (if_neg h1)) w' o ho⟩
end
end Go.Rc
