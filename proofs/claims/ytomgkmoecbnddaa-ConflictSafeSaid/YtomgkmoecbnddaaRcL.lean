/- RcL: comparisons with nil and of pointers; bytes to a string; slices; structs that are built; lengths. -/
import Derived.Test.YtomgkmoecbnddaaRcK
set_option linter.unusedVariables false
set_option linter.unusedSimpArgs false
set_option linter.unnecessarySimpa false
namespace Go.Rc
open Go Go.Sym
section
variable {P : Program} {n : Nat} {x y c : Operand} {g gx gy gc : G} {t yt : TypeId}
theorem run_eql' {a : Act} {o : Oper} {u v : Value} {r : Bool} {w : World} (ho : o.op = .binOp .eql t x y yt) (hx : a.eval x = u) (hy : a.eval y = v) (hg : (eqGuard .eql t x y u v).run P w = .ok () w) (hb : binOp .eql t u v = (do pure (.bool (← Op.equal t u v)))) (h : (Op.equal t u v).run P w = .ok r w) :
    (execOp a.eval o).run P w = .ok (.value (.bool r)) w := by
  simp only [execOp, ho, hx, hy, Sem.run_bind, hg, Result.andThen_ok, hb, h, Sem.run_pure]
theorem run_neq' {a : Act} {o : Oper} {u v : Value} {r : Bool} {w : World} (ho : o.op = .binOp .neq t x y yt) (hx : a.eval x = u) (hy : a.eval y = v) (hg : (eqGuard .neq t x y u v).run P w = .ok () w) (hb : binOp .neq t u v = (do pure (.bool (!(← Op.equal t u v))))) (h : (Op.equal t u v).run P w = .ok r w) :
    (execOp a.eval o).run P w = .ok (.value (.bool (!r))) w := by
  simp only [execOp, ho, hx, hy, Sem.run_bind, hg, Result.andThen_ok, hb, h, Sem.run_pure]
/-- nil number w, and what else a value of such a type may be -/
def NilKind (P : Program) (t : TypeId) (w tg : Nat) : Prop :=
  (w = 0 ∧ tg = 2 ∧ ∃ e, P.underlying t = some (.pointer e)) ∨ (w = 1 ∧ tg = 4 ∧ ∃ e, P.underlying t = some (.slice e)) ∨ (w = 2 ∧ tg = 5 ∧ ∃ k e, P.underlying t = some (.map k e)) ∨
  (w = 3 ∧ tg = 7 ∧ ∃ i r b, P.underlying t = some (.func i r b)) ∨ (w = 4 ∧ tg = 11 ∧ ∃ m, P.underlying t = some (.interface m))
theorem onTg_t {tg : Nat} {v : V} {c : Bool} (h : onTg tg v c = true) : (∃ a b d p l r, v = .c tg a b d p l r) ∧ c = true := by
  obtain ⟨g, a, b, d, p, l, r, hv, h1⟩ := onC_t h
  obtain ⟨hg, h2⟩ := bi_f h1
  have hg := beq_t hg
  exact ⟨⟨a, b, d, p, l, r, by rw [hv, hg]⟩, h2⟩
/-- one of two values is nil, the other is nil (z) or not -/
theorem nil_run {σ : Sg} {w tg : Nat} (hk : NilKind P t w tg) {u v : V} {a b : Value} (hu : Rel σ u a) (hv : Rel σ v b) {z : Bool} (hc : isC x || isC y = true)
    (h : (z = true ∧ (∃ b d p l r, u = .c 3 w b d p l r) ∧ (∃ b d p l r, v = .c 3 w b d p l r)) ∨ (z = false ∧ (∃ b d p l r, u = .c 3 w b d p l r) ∧ (∃ a b d p l r, v = .c tg a b d p l r)) ∨ (z = false ∧ (∃ a b d p l r, u = .c tg a b d p l r) ∧ (∃ b d p l r, v = .c 3 w b d p l r))) (wd : World) :
    (∀ o, (eqGuard o t x y a b).run P wd = .ok () wd) ∧ (Op.equal t a b).run P wd = .ok z wd ∧ binOp .eql t a b = (do pure (.bool (← Op.equal t a b))) ∧ binOp .neq t a b = (do pure (.bool (!(← Op.equal t a b)))) := by
  have hnil : ∀ {v : V} {b : Value}, Rel σ v b → (∃ b d p l r, v = .c 3 w b d p l r) → (w = 0 ∧ b = .pointer none) ∨ (w = 1 ∧ b = .slice none 0 0) ∨ (w = 2 ∧ b = .map none) ∨ (w = 3 ∧ b = .nilFunc) ∨ (w = 4 ∧ b = .nilIface) := by
    rintro v b hr ⟨_, _, _, _, _, rfl⟩
    exact hr.c3
  rcases hk with ⟨rfl, rfl, e, ht⟩ | ⟨rfl, rfl, e, ht⟩ | ⟨rfl, rfl, kt, e, ht⟩ | ⟨rfl, rfl, i, r, b, ht⟩ | ⟨rfl, rfl, m, ht⟩
  · have n0 : ∀ {v : V} {b : Value}, Rel σ v b → (∃ b d p l r, v = .c 3 0 b d p l r) → b = .pointer none := fun hr he => by simpa using hnil hr he
    have n1 : ∀ {v : V} {b : Value}, Rel σ v b → (∃ a b d p l r, v = .c 2 a b d p l r) → ∃ q, b = .pointer (some q) := by
      rintro v b hr ⟨_, _, _, _, _, _, rfl⟩
      obtain ⟨bb, c, h, _⟩ := hr.c2
      exact ⟨_, h⟩
    rcases h with ⟨rfl, h1, h2⟩ | ⟨rfl, h1, h2⟩ | ⟨rfl, h1, h2⟩
    · rw [n0 hu h1, n0 hv h2]; exact ⟨fun o => by cases o <;> rfl, run_eqp ht, rfl, rfl⟩
    · obtain ⟨q, rfl⟩ := n1 hv h2
      rw [n0 hu h1]; exact ⟨fun o => by cases o <;> rfl, run_eqp ht, rfl, rfl⟩
    · obtain ⟨q, rfl⟩ := n1 hu h1
      rw [n0 hv h2]; exact ⟨fun o => by cases o <;> rfl, run_eqp ht, rfl, rfl⟩
  · have n0 : ∀ {v : V} {b : Value}, Rel σ v b → (∃ b d p l r, v = .c 3 1 b d p l r) → b = .slice none 0 0 := fun hr he => by simpa using hnil hr he
    have n1 : ∀ {v : V} {b : Value}, Rel σ v b → (∃ a b d p l r, v = .c 4 a b d p l r) → ∃ q l c, b = .slice (some q) l c := by
      rintro v b hr ⟨_, _, _, _, _, _, rfl⟩
      obtain ⟨bb, c, cap, h, _⟩ := hr.c4
      exact ⟨_, _, _, h⟩
    rcases h with ⟨rfl, h1, h2⟩ | ⟨rfl, h1, h2⟩ | ⟨rfl, h1, h2⟩
    · rw [n0 hu h1, n0 hv h2]; exact ⟨fun o => by cases o <;> rfl, run_eqsl ht (.inl rfl), rfl, rfl⟩
    · obtain ⟨q, l, c, rfl⟩ := n1 hv h2
      rw [n0 hu h1]; exact ⟨fun o => by cases o <;> rfl, run_eqsl ht (.inl rfl), rfl, rfl⟩
    · obtain ⟨q, l, c, rfl⟩ := n1 hu h1
      rw [n0 hv h2]; exact ⟨fun o => by cases o <;> rfl, run_eqsl ht (.inr rfl), rfl, rfl⟩
  · have n0 : ∀ {v : V} {b : Value}, Rel σ v b → (∃ b d p l r, v = .c 3 2 b d p l r) → b = .map none := fun hr he => by simpa using hnil hr he
    have n1 : ∀ {v : V} {b : Value}, Rel σ v b → (∃ a b d p l r, v = .c 5 a b d p l r) → ∃ q, b = .map (some q) := by
      rintro v b hr ⟨_, _, _, _, _, _, rfl⟩
      obtain ⟨bb, c, h, _⟩ := hr.c5
      exact ⟨_, h⟩
    rcases h with ⟨rfl, h1, h2⟩ | ⟨rfl, h1, h2⟩ | ⟨rfl, h1, h2⟩
    · rw [n0 hu h1, n0 hv h2]; exact ⟨fun o => by cases o <;> rfl, run_eqmp ht (.inl rfl), rfl, rfl⟩
    · obtain ⟨q, rfl⟩ := n1 hv h2
      rw [n0 hu h1]; exact ⟨fun o => by cases o <;> rfl, run_eqmp ht (.inl rfl), rfl, rfl⟩
    · obtain ⟨q, rfl⟩ := n1 hu h1
      rw [n0 hv h2]; exact ⟨fun o => by cases o <;> rfl, run_eqmp ht (.inr rfl), rfl, rfl⟩
  · have n0 : ∀ {v : V} {b : Value}, Rel σ v b → (∃ b d p l r, v = .c 3 3 b d p l r) → b = .nilFunc := fun hr he => by simpa using hnil hr he
    have n1 : ∀ {v : V} {b : Value}, Rel σ v b → (∃ a b d p l r, v = .c 7 a b d p l r) → ∃ q l c, b = .func q l c := by
      rintro v b hr ⟨_, _, _, _, _, _, rfl⟩
      obtain ⟨gi, fl, cl, h, _⟩ := hr.c7
      exact ⟨_, _, _, h⟩
    have eq : ∀ u v, (Op.equal t u v).run P wd = (Op.equalIn (9999 + 1) t u v).run P wd := fun _ _ => rfl
    rcases h with ⟨rfl, h1, h2⟩ | ⟨rfl, h1, h2⟩ | ⟨rfl, h1, h2⟩
    · rw [n0 hu h1, n0 hv h2]; exact ⟨fun o => by cases o <;> rfl, by rw [eq, Op.equalIn, Sem.run_bind, run_underlying ht]; rfl, rfl, rfl⟩
    · obtain ⟨q, l, c, rfl⟩ := n1 hv h2
      rw [n0 hu h1]; exact ⟨fun o => by cases o <;> rfl, by rw [eq, Op.equalIn, Sem.run_bind, run_underlying ht]; rfl, rfl, rfl⟩
    · obtain ⟨q, l, c, rfl⟩ := n1 hu h1
      rw [n0 hv h2]; exact ⟨fun o => by cases o <;> rfl, by rw [eq, Op.equalIn, Sem.run_bind, run_underlying ht]; rfl, rfl, rfl⟩
  · have n0 : ∀ {v : V} {b : Value}, Rel σ v b → (∃ b d p l r, v = .c 3 4 b d p l r) → b = .nilIface := fun hr he => by simpa using hnil hr he
    have n1 : ∀ {v : V} {b : Value}, Rel σ v b → (∃ a b d p l r, v = .c 11 a b d p l r) → ∃ q u, b = .iface q u := by
      rintro v b hr ⟨_, _, _, _, _, _, rfl⟩
      obtain ⟨u, h, _⟩ := hr.c11
      exact ⟨_, _, h⟩
    have eq : ∀ u v, (Op.equal t u v).run P wd = (Op.equalIn (9999 + 1) t u v).run P wd := fun _ _ => rfl
    rcases h with ⟨rfl, h1, h2⟩ | ⟨rfl, h1, h2⟩ | ⟨rfl, h1, h2⟩
    · rw [n0 hu h1, n0 hv h2]
      refine ⟨fun o => ?_, by rw [eq, Op.equalIn, Sem.run_bind, run_underlying ht]; rfl, rfl, rfl⟩
      have hc' : (∃ v, x = .const v) ∨ ∃ v, y = .const v := by
        cases x <;> cases y <;> simp [isC] at hc ⊢
      rcases hc' with ⟨v, rfl⟩ | ⟨v, rfl⟩
      · cases o <;> rfl
      · cases o <;> cases x <;> rfl
    · obtain ⟨q, u, rfl⟩ := n1 hv h2
      rw [n0 hu h1]; exact ⟨fun o => by cases o <;> rfl, by rw [eq, Op.equalIn, Sem.run_bind, run_underlying ht]; rfl, rfl, rfl⟩
    · obtain ⟨q, u, rfl⟩ := n1 hu h1
      rw [n0 hv h2]; exact ⟨fun o => by cases o <;> rfl, by rw [eq, Op.equalIn, Sem.run_bind, run_underlying ht]; rfl, rfl, rfl⟩
theorem eqN_ok {w tg : Nat} (hk : NilKind P t w tg) (hx : GOk n x gx) (hy : GOk n y gy) (hc : isC x || isC y = true) : QOk P n (.binOp .eql t x y yt) (opEqN w tg vT vF gx gy) noRn ∧ QOk P n (.binOp .neq t x y yt) (opEqN w tg vF vT gx gy) noRn := by
  obtain ⟨vx, x1, x2⟩ := hx.ex
  obtain ⟨vy, y1, y2⟩ := hy.ex
  have key : ∀ (tv fv : V) cf rb fr h k σ a, opEqN w tg tv fv gx gy cf rb fr h k = true → FrOk σ n fr a → ∃ z : Bool, k (if z then tv else fv) h = true ∧ ∀ wd, (∀ o, (eqGuard o t x y (a.eval x) (a.eval y)).run P wd = .ok () wd) ∧ (Op.equal t (a.eval x) (a.eval y)).run P wd = .ok z wd ∧ binOp .eql t (a.eval x) (a.eval y) = (do pure (.bool (← Op.equal t (a.eval x) (a.eval y)))) ∧ binOp .neq t (a.eval x) (a.eval y) = (do pure (.bool (!(← Op.equal t (a.eval x) (a.eval y))))) := fun tv fv cf rb fr h k σ a e hf => by
    have e1 := y1 _ _ (x1 _ _ e)
    have hu := x2 σ fr a hf
    have hv := y2 σ fr a hf
    rcases isNil_t e1 with ⟨b, d, p, l, r, h1, e2⟩ | ⟨gg, aa, b, d, p, l, r, h1, _, e2⟩
    · rcases isNil_t e2 with ⟨b2, d2, p2, l2, r2, h2, e3⟩ | ⟨_, _, _, _, _, _, _, h2, _, e3⟩
      · exact ⟨true, e3, fun wd => nil_run hk hu hv hc (.inl ⟨rfl, ⟨_, _, _, _, _, h1⟩, ⟨_, _, _, _, _, h2⟩⟩) wd⟩
      · obtain ⟨h3, e4⟩ := onTg_t e3
        exact ⟨false, e4, fun wd => nil_run hk hu hv hc (.inr (.inl ⟨rfl, ⟨_, _, _, _, _, h1⟩, h3⟩)) wd⟩
    · rcases isNil_t e2 with ⟨b2, d2, p2, l2, r2, h2, e3⟩ | ⟨_, _, _, _, _, _, _, h2, _, e3⟩
      · obtain ⟨h3, e4⟩ := onTg_t e3
        exact ⟨false, e4, fun wd => nil_run hk hu hv hc (.inr (.inr ⟨rfl, h3, ⟨_, _, _, _, _, h2⟩⟩)) wd⟩
      · cases e3
  refine ⟨⟨fun cf rb fr h k E R σ a wd e hf _ => ?_⟩, ⟨fun cf rb fr h k E R σ a wd e hf _ => ?_⟩⟩
  · obtain ⟨z, hk2, hrun⟩ := key _ _ _ _ _ _ _ _ _ e hf
    exact ⟨_, .bool z, hk2, rel_b σ z, fun w' o ho _ => run_eql' ho rfl rfl ((hrun w').1 _) (hrun w').2.2.1 (hrun w').2.1⟩
  · obtain ⟨z, hk2, hrun⟩ := key _ _ _ _ _ _ _ _ _ e hf
    exact ⟨_, .bool (!z), hk2, by cases z; exact .tt σ; exact .ff σ, fun w' o ho _ => run_neq' ho rfl rfl ((hrun w').1 _) (hrun w').2.2.2 (hrun w').2.1⟩
theorem eqP_ok {e : TypeId} {ag : Bool} {m : Nat} (ht : P.underlying t = some (.pointer e)) (hT : tyOf P e = some (ag, m + 1)) (hx : GOk n x gx) (hy : GOk n y gy) : WOk P n (.binOp .eql t x y yt) (opEqP vT vF gx gy) ∧ WOk P n (.binOp .neq t x y yt) (opEqP vF vT gx gy) := by
  obtain ⟨vx, x1, x2⟩ := hx.ex
  obtain ⟨vy, y1, y2⟩ := hy.ex
  have key : ∀ (tv fv : V) cf rb fr h k E R σ a w, opEqP tv fv gx gy cf rb fr h k = true → FrOk σ n fr a → HR P E R σ h w → ∃ z : Bool, k (if z then tv else fv) h = true ∧ ∃ p q, a.eval x = .pointer p ∧ a.eval y = .pointer q ∧ (Op.equal t (.pointer p) (.pointer q)).run P w = .ok z w := fun tv fv cf rb fr h k E R σ a w e0 hf H => by
    have e1 := y1 _ _ (x1 _ _ e0)
    have hu := x2 σ fr a hf
    have hv := y2 σ fr a hf
    rcases isNil_t e1 with ⟨b, d, p, l, r, h1, e2⟩ | ⟨gg, aa, b, d, p, l, r, h1, _, e2⟩
    · rw [h1] at hu
      have hu : a.eval x = .pointer none := by simpa using hu.c3
      rcases isNil_t e2 with ⟨b2, d2, p2, l2, r2, h2, e3⟩ | ⟨_, _, _, _, _, _, _, h2, _, e3⟩
      · rw [h2] at hv
        have hv : a.eval y = .pointer none := by simpa using hv.c3
        exact ⟨true, e3, _, _, hu, hv, run_eqp ht⟩
      · obtain ⟨⟨_, _, _, _, _, _, h3⟩, e4⟩ := onTg_t e3
        rw [h3] at hv
        obtain ⟨bb, c, hv, _⟩ := hv.c2
        exact ⟨false, e4, _, _, hu, hv, run_eqp ht⟩
    · rcases isNil_t e2 with ⟨b2, d2, p2, l2, r2, h2, e3⟩ | ⟨_, _, _, _, _, _, _, h2, _, e3⟩
      · rw [h2] at hv
        have hv : a.eval y = .pointer none := by simpa using hv.c3
        obtain ⟨⟨_, _, _, _, _, _, h3⟩, e4⟩ := onTg_t e3
        rw [h3] at hu
        obtain ⟨bb, c, hu, _⟩ := hu.c2
        exact ⟨false, e4, _, _, hu, hv, run_eqp ht⟩
      · obtain ⟨o1, _, _, p1, _, _, hv1, e4⟩ := onPtr_t e3
        obtain ⟨o2, _, _, p2, _, _, hv2, e5⟩ := onPtr_t e4
        rw [hv1] at hu
        rw [hv2] at hv
        obtain ⟨b1, c1, hu, hs1⟩ := hu.c2
        obtain ⟨b2, c2, hv, hs2⟩ := hv.c2
        have hrun : ∀ z, (sameAddr ⟨b1, o1, none⟩ ⟨b2, o2, none⟩).run P w = .ok z w → (Op.equal t (.pointer (some ⟨b1, o1, none⟩)) (.pointer (some ⟨b2, o2, none⟩))).run P w = .ok z w := fun z hz => by
          rw [run_eqp ht]
          simp only [Sem.run_bind, run_sizeT hT, Result.andThen_ok]
          rw [if_pos (by omega)]
          exact hz
        rcases bi_t e5 with ⟨h5, e6⟩ | ⟨h5, e6⟩
        · have h5 := (Pos.eq_iff _ _).1 h5
          rw [h5, hs2] at hs1
          injection hs1 with hs1; injection hs1 with hs1 _
          subst hs1
          refine ⟨decide (o1 = o2), ?_, _, _, hu, hv, hrun _ run_same⟩
          rcases bi_t e6 with ⟨h6, e7⟩ | ⟨h6, e7⟩
          · rw [decide_eq_true (beq_t h6)]; exact e7
          · rw [decide_eq_false (beq_f h6)]; exact e7
        · obtain ⟨t1, et1, q1, l1, ht1, ha1, e7⟩ := hcells_t e6
          obtain ⟨t2, et2, q2, l2, ht2, ha2, e8⟩ := hcells_t e7
          obtain ⟨b1', c1', vl1, j1, hl1, hs1', hw1, _⟩ := H.cells ht1 ha1
          obtain ⟨b2', c2', vl2, j2, hl2, hs2', hw2, _⟩ := H.cells ht2 ha2
          rw [hs1] at hs1'; injection hs1' with hs1'; injection hs1' with hs1' _
          rw [hs2] at hs2'; injection hs2' with hs2'; injection hs2' with hs2' _
          subst hs1' hs2'
          have hne : b1 ≠ b2 := fun he => Pos.eq_f h5 (H.inj p1 p2 b1 c1 c2 hl1 hl2 hs1 (he ▸ hs2))
          exact ⟨false, e8, _, _, hu, hv, hrun _ (run_other hne hw1 hw2)⟩
  refine ⟨⟨fun cf rb fr h k E R σ a w o ho _ _ e hf H => ?_⟩, ⟨fun cf rb fr h k E R σ a w o ho _ _ e hf H => ?_⟩⟩
  · obtain ⟨z, hk, p, q, hp, hq, hrun⟩ := key _ _ _ _ _ _ _ _ _ _ _ _ e hf H
    exact .inl ⟨_, w, run_eql' ho hp hq rfl rfl hrun, _, σ, h, hk, rel_b σ z, .refl H⟩
  · obtain ⟨z, hk, p, q, hp, hq, hrun⟩ := key _ _ _ _ _ _ _ _ _ _ _ _ e hf H
    exact .inl ⟨_, w, run_neq' ho hp hq rfl rfl hrun, _, σ, h, hk, by cases z; exact .tt σ; exact .ff σ, .refl H⟩
end
end Go.Rc
