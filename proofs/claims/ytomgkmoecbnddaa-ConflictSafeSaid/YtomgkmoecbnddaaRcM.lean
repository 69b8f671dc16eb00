/- RcM: slices, strings out of bytes, structs that are built, lengths. -/
import Derived.Test.YtomgkmoecbnddaaRcL
import Derived.Laws.BytesString
set_option linter.unusedVariables false
set_option linter.unusedSimpArgs false
set_option linter.unnecessarySimpa false
namespace Go.Rc
open Go Go.Sym
section
variable {P : Program} {n : Nat} {x y c : Operand} {g gx gy gc : G} {t yt : TypeId}
def NatB (v : Option Value) (d i : Nat) : Prop := (v = none ∧ i = d) ∨ ∃ q, v = some (.int q i)
theorem oG_t {lo : Option Operand} {gl : Option G} (h : GoOk n lo gl) {d : Nat} {fr : T} {k : Nat → Bool} (e : oG gl d fr k = true) : ∃ i, k i = true ∧ ∀ σ a, FrOk σ n fr a → NatB (lo.map a.eval) d i := by
  rcases h with ⟨rfl, rfl⟩ | ⟨y, r, rfl, rfl, hy⟩
  · exact ⟨d, e, fun _ _ _ => .inl ⟨rfl, rfl⟩⟩
  · obtain ⟨val, h1, h2⟩ := hy.ex
    obtain ⟨i, kb, _, _, _, _, hv, hi1, hi3, e⟩ := onNat_t (h1 _ _ e)
    refine ⟨i, e, fun σ a hf => ?_⟩
    have hr := h2 σ fr a hf
    rw [hv] at hr
    obtain ⟨q, hq⟩ := idx_val hr hi1 hi3
    exact .inr ⟨q, by simp [hq]⟩
theorem run_bound {q : IntKind} {i y : Nat} {cd : BoundsCode} {w : World} (h : i ≤ y) : (Instr.sliceBound (.int q i) y cd).run P w = .ok i w := by
  have h1 : (0 : Int) ≤ (i : Int) ∧ (i : Int) ≤ (y : Int) := by omega
  simp [Instr.sliceBound, asIntOf, h]
theorem run_bounds {b : Bool} {len cap l hh m : Nat} {lo hi mx : Option Value} {w : World} (hl : NatB lo 0 l) (hh1 : NatB hi len hh) (hm : NatB mx cap m) (h0 : hi = none → mx = none) (h1 : l ≤ hh) (h2 : hh ≤ m) (h3 : m ≤ cap) (h4 : hi = none → hh ≤ m) :
    (Instr.sliceBounds b len cap lo hi mx).run P w = .ok (l, hh, m) w := by
  unfold Instr.sliceBounds
  rcases hm with ⟨rfl, rfl⟩ | ⟨qm, rfl⟩
  · rcases hh1 with ⟨rfl, rfl⟩ | ⟨qh, rfl⟩
    · rcases hl with ⟨rfl, rfl⟩ | ⟨ql, rfl⟩
      · simp
      · simp [run_bound h1]
    · rcases hl with ⟨rfl, rfl⟩ | ⟨ql, rfl⟩
      · simp [run_bound h2]
      · simp [run_bound h2, run_bound h1]
  · rcases hh1 with ⟨rfl, rfl⟩ | ⟨qh, rfl⟩
    · cases h0 rfl
    · rcases hl with ⟨rfl, rfl⟩ | ⟨ql, rfl⟩
      · simp [run_bound h3, run_bound h2]
      · simp [run_bound h3, run_bound h2, run_bound h1]
theorem slFin_t {s o : Nat} {p : Pos} {l hh m : Nat} {h : Hp} {k : K1} (e : slFin s o p l hh m h k = true) : l ≤ hh ∧ hh ≤ m ∧ k (vSl p (if m = l then o else o + l * s) (hh - l) (m - l + 1)) h = true := by
  obtain ⟨h1, e⟩ := bi_f e
  obtain ⟨h2, e⟩ := bi_f e
  rw [fN_eq, fN_eq, fN_eq] at e
  refine ⟨ble_t h1, ble_t h2, ?_⟩
  have : (@Bool.rec (fun _ => Nat) (Nat.add o (Nat.mul l s)) o (Nat.beq m l) : Nat) = if m = l then o else o + l * s := by
    rw [beq_dec]
    by_cases h : m = l
    · rw [if_pos h, decide_eq_true h]
    · rw [if_neg h, decide_eq_false h]; rfl
  rw [this] at e
  exact e
theorem slS_ok {et : TypeId} {ag : Bool} {s : Nat} (ht : P.underlying t = some (.slice et)) (hT : tyOf P et = some (ag, s)) (hs1 : 1 ≤ s) {lo hi mx : Option Operand} {gl gh gm : Option G} (hx : GOk n x g) (hl : GoOk n lo gl) (hh : GoOk n hi gh) (hm : GoOk n mx gm) (h0 : ¬ (gh.isNone = true ∧ gm.isSome = true)) :
    QOk P n (.slice t x lo hi mx) (opSlS s g gl gh gm) noRn := ⟨fun cf rb fr h k E R σ a w e hf _ => by
  obtain ⟨val, v1, v2⟩ := hx.ex
  have hr := v2 σ fr a hf
  have h0' : hi.map a.eval = none → mx.map a.eval = none := fun hn => by
    rcases hm with ⟨rfl, rfl⟩ | ⟨ym, rm, rfl, rfl, _⟩
    · rfl
    · rcases hh with ⟨rfl, rfl⟩ | ⟨yh, rh, rfl, rfl, _⟩
      · exact absurd ⟨rfl, rfl⟩ h0
      · cases hn
  have fin : ∀ {ad : Option Addr} {len cap l hh m : Nat} (w' : World) (o : Oper), o.op = .slice t x lo hi mx → a.eval x = .slice ad len cap → NatB (lo.map a.eval) 0 l → NatB (hi.map a.eval) len hh → NatB (mx.map a.eval) cap m → l ≤ hh → hh ≤ m → m ≤ cap →
      (execOp a.eval o).run P w' = .ok (.value (.slice (if m = l then ad else ad.map (·.add (l * s))) (hh - l) (m - l))) w' := by
    intro ad len cap l hh m w' o ho hxv q1 q2 q3 h1 h2 h3
    have hb := run_bounds (P := P) (w := w') (b := true) q1 q2 q3 h0' h1 h2 h3 (fun _ => h2)
    have hrun : (Instr.sliceAt t (.slice ad len cap) (lo.map a.eval) (hi.map a.eval) (mx.map a.eval)).run P w' = .ok (.slice (if m = l then ad else ad.map (·.add (l * s))) (hh - l) (m - l)) w' := by
      unfold Instr.sliceAt
      rw [Sem.run_bind, run_underlying ht]
      simp only [Result.andThen_ok]
      unfold Instr.slice
      rw [Sem.run_bind, run_underlying ht]
      simp only [Result.andThen_ok, Sem.run_bind, hb, run_sizeT hT]
      rfl
    simp only [execOp, ho, hxv]
    rw [Sem.run_bind, hrun]; rfl
  have e0 := v1 _ _ e
  rcases isNil_t e0 with ⟨b, d, p, l, r, hv, e1⟩ | ⟨_, _, _, _, _, _, _, _, _, e1⟩
  · obtain ⟨il, e2, q1⟩ := oG_t hl e1
    obtain ⟨ih, e3, q2⟩ := oG_t hh e2
    obtain ⟨im, e4, q3⟩ := oG_t hm e3
    obtain ⟨b1, e5⟩ := bi_f e4
    obtain ⟨b2, e6⟩ := bi_f e5
    obtain ⟨b3, e7⟩ := bi_f e6
    have b1 := beq_t b1
    have b2 := beq_t b2
    have b3 := beq_t b3
    subst b1 b2 b3
    have hr' := hr
    rw [hv] at hr
    have hxv : a.eval x = .slice none 0 0 := by simpa using hr.c3
    refine ⟨_, .slice none 0 0, e7, hxv ▸ hr', fun w' o ho _ => ?_⟩
    exact fin w' o ho hxv (q1 σ a hf) (q2 σ a hf) (q3 σ a hf) (Nat.le_refl _) (Nat.le_refl _) (Nat.le_refl _)
  · obtain ⟨o, len, cap1, p, _, _, hv, e2⟩ := onSl_t e1
    obtain ⟨il, e3, q1⟩ := oG_t hl e2
    obtain ⟨ih, e4, q2⟩ := oG_t hh e3
    rw [hv] at hr
    obtain ⟨bb, c, cap, hxv, hs, hle, hcap⟩ := hr.c4
    have known : ∀ {im : Nat}, slFin s o p il ih im h k = true → im ≤ cap → NatB (mx.map a.eval) cap im → ∃ v z, k v h = true ∧ Rel σ v z ∧ ∀ w' (op : Oper), op.op = .slice t x lo hi mx → ReadsSame noRn σ fr h w w' → (execOp a.eval op).run P w' = .ok (.value z) w' := fun {im} e5 h5 q3 => by
      obtain ⟨h6, h7, e6⟩ := slFin_t e5
      refine ⟨_, _, e6, ?_, fun w' op ho _ => fin w' op ho hxv (q1 σ a hf) (q2 σ a hf) q3 h6 h7 h5⟩
      by_cases hml : im = il
      · rw [if_pos hml, if_pos hml]; exact .sl hs (by omega) (.inl rfl)
      · rw [if_neg hml, if_neg hml]
        simp only [Option.map_some, add_none]
        exact .sl hs (by omega) (.inl rfl)
    cases cap1 with
    | succ cp =>
      have hcp : cap = cp := by rcases hcap with h | ⟨h, _⟩ <;> omega
      subst hcp
      obtain ⟨im, e5, q3⟩ := oG_t (d := cap) hm e4
      obtain ⟨h5, e6⟩ := bi_f e5
      exact known e6 (ble_t h5) (q3 σ a hf)
    | zero =>
      have hc0 : o = 0 → c = .c cap := by rcases hcap with h | ⟨_, h⟩; omega; exact h
      rcases hm with ⟨rfl, rfl⟩ | ⟨ym, rm, rfl, rfl, hym⟩
      · obtain ⟨b1, e5⟩ := bi_f e4
        obtain ⟨b2, e6⟩ := bi_f e5
        have b1 := ble_t b1
        have b2 := ble_t b2
        have q3 : NatB ((none : Option Operand).map a.eval) cap cap := .inl ⟨rfl, rfl⟩
        rcases bi_t e6 with ⟨b3, e7⟩ | ⟨b3, e7⟩
        · have b3 := blt_t b3
          rw [fN_eq, fN_eq] at e7
          refine ⟨_, _, e7, ?_, fun w' op ho _ => fin w' op ho hxv (q1 σ a hf) (q2 σ a hf) q3 b1 (by omega) (Nat.le_refl _)⟩
          rw [if_neg (by omega)]
          simp only [Option.map_some, add_none]
          refine .sl hs (by show ih - il ≤ _; omega) (.inr ⟨rfl, fun h8 => ?_⟩)
          have h8 : o + il * s = 0 := h8
          have h9 : il * s = 0 := by omega
          have h10 : il = 0 := by
            rcases Nat.mul_eq_zero.1 h9 with h | h
            · exact h
            · omega
          rw [hc0 (by omega), h10]; rfl
        · have b3 := blt_f b3
          obtain ⟨b4, e8⟩ := bi_f e7
          have b4 := beq_t b4
          subst b4
          have hlen : len = 0 := by omega
          subst hlen
          have hih : ih = 0 := by omega
          subst hih
          refine ⟨_, _, e8, ?_, fun w' op ho _ => fin w' op ho hxv (q1 σ a hf) (q2 σ a hf) q3 b1 (by omega) (Nat.le_refl _)⟩
          by_cases hml : cap = 0
          · rw [if_pos hml]; exact .sl hs (by omega) (.inr ⟨rfl, fun h8 => by rw [hc0 h8]; rfl⟩)
          · rw [if_neg hml]
            simp only [Option.map_some, add_none, Nat.zero_mul, Nat.add_zero]
            exact .sl hs (by omega) (.inr ⟨rfl, fun h8 => by rw [hc0 h8]; rfl⟩)
      · obtain ⟨im, e5, q3⟩ := oG_t (d := 0) (.inr ⟨ym, rm, rfl, rfl, hym⟩) e4
        obtain ⟨h5, e6⟩ := bi_f e5
        have q3' := q3 σ a hf
        have h5 := ble_t h5
        refine known e6 (by omega) ?_
        rcases q3' with ⟨h, _⟩ | h
        · cases h
        · exact .inr h⟩
theorem slA_ok {et : TypeId} {ag : Bool} {s m : Nat} (ht : P.underlying t = some (.array m et)) (hT : tyOf P et = some (ag, s)) {lo hi mx : Option Operand} {gl gh gm : Option G} (hx : GOk n x g) (hl : GoOk n lo gl) (hh : GoOk n hi gh) (hm : GoOk n mx gm) (h0 : ¬ (gh.isNone = true ∧ gm.isSome = true)) :
    QOk P n (.slice t x lo hi mx) (opSlA m s g gl gh gm) noRn := ⟨fun cf rb fr h k E R σ a w e hf _ => by
  obtain ⟨val, v1, v2⟩ := hx.ex
  have hr := v2 σ fr a hf
  have h0' : hi.map a.eval = none → mx.map a.eval = none := fun hn => by
    rcases hm with ⟨rfl, rfl⟩ | ⟨ym, rm, rfl, rfl, _⟩
    · rfl
    · rcases hh with ⟨rfl, rfl⟩ | ⟨yh, rh, rfl, rfl, _⟩
      · exact absurd ⟨rfl, rfl⟩ h0
      · cases hn
  obtain ⟨o, _, _, p, _, _, hv, e2⟩ := onPtr_t (v1 _ _ e)
  obtain ⟨il, e3, q1⟩ := oG_t hl e2
  obtain ⟨ih, e4, q2⟩ := oG_t hh e3
  obtain ⟨im, e5, q3⟩ := oG_t hm e4
  obtain ⟨h5, e6⟩ := bi_f e5
  have h5 := ble_t h5
  obtain ⟨h6, h7, e7⟩ := slFin_t e6
  rw [hv] at hr
  obtain ⟨bb, c, hxv, hs⟩ := hr.c2
  refine ⟨_, .slice (some (if im = il then ⟨bb, o, none⟩ else ⟨bb, o + il * s, none⟩)) (ih - il) (im - il), e7, ?_, fun w' op ho _ => ?_⟩
  · by_cases hml : im = il
    · rw [if_pos hml, if_pos hml]; exact .sl hs (by omega) (.inl rfl)
    · rw [if_neg hml, if_neg hml]; exact .sl hs (by omega) (.inl rfl)
  · have hb := run_bounds (P := P) (w := w') (b := false) (q1 σ a hf) (q2 σ a hf) (q3 σ a hf) h0' h6 h7 h5 (fun _ => h7)
    have hrun : (Instr.sliceAt t (.pointer (some ⟨bb, o, none⟩)) (lo.map a.eval) (hi.map a.eval) (mx.map a.eval)).run P w' = .ok (.slice (some (if im = il then ⟨bb, o, none⟩ else ⟨bb, o + il * s, none⟩)) (ih - il) (im - il)) w' := by
      unfold Instr.sliceAt
      rw [Sem.run_bind, run_underlying ht]
      simp only [Result.andThen_ok, Instr.sureAddr, Sem.run_bind, Sem.run_pure, hb, run_sizeT hT, add_none]
    simp only [execOp, ho, hxv]
    rw [Sem.run_bind, hrun]; rfl⟩
theorem slT_ok (ht : P.underlying t = some .string) {lo hi : Option Operand} {gl gh : Option G} (hx : GOk n x g) (hl : GoOk n lo gl) (hh : GoOk n hi gh) : QOk P n (.slice t x lo hi none) (opSlT g gl gh) noRn := ⟨fun cf rb fr h k E R σ a w e hf _ => by
  obtain ⟨val, v1, v2⟩ := hx.ex
  have hr := v2 σ fr a hf
  obtain ⟨tg, sa, sn, _, _, _, _, hv, e1⟩ := onC_t (v1 _ _ e)
  obtain ⟨htg, e2⟩ := bi_f e1
  have htg := beq_t htg
  rw [hv, htg] at hr
  obtain ⟨s, hxv, h1, h2⟩ := hr.c6
  obtain ⟨il, e3, q1⟩ := oG_t hl e2
  obtain ⟨ih, e4, q2⟩ := oG_t hh e3
  obtain ⟨b1, e5⟩ := bi_f e4
  obtain ⟨b2, e6⟩ := bi_f e5
  have b1 := ble_t b1
  have b2 := ble_t b2
  rw [fN_eq, fN_eq] at e6
  have hd : (s.extract il ih).data.toList = (s.data.toList.drop il).take (ih - il) := by
    simp [List.extract_eq_take_drop]
  refine ⟨_, .string (s.extract il ih), e6, .str ?_ ?_, fun w' op ho _ => ?_⟩
  · rw [hd, strNum_take, strNum_drop, h1]; rfl
  · show ih - il = _
    rw [ByteArray.size_extract]; omega
  · have q2' : NatB (hi.map a.eval) s.size ih := by have := q2 σ a hf; rwa [h2] at this
    have hb := run_bounds (P := P) (w := w') (b := false) (cap := s.size) (mx := none) (q1 σ a hf) q2' (.inl ⟨rfl, rfl⟩) (fun _ => rfl) b1 (by omega) (Nat.le_refl _) (fun _ => by omega)
    have hrun : (Instr.sliceAt t (.string s) (lo.map a.eval) (hi.map a.eval) none).run P w' = .ok (.string (s.extract il ih)) w' := by
      unfold Instr.sliceAt
      rw [Sem.run_bind, run_underlying ht]
      simp only [Result.andThen_ok]
      unfold Instr.slice
      rw [Sem.run_bind, run_underlying ht]
      simp only [Result.andThen_ok, Option.isSome_none, Bool.false_eq_true, if_false, Sem.run_bind, hb]
      rfl
    simp only [execOp, ho, hxv, Option.map_none]
    rw [Sem.run_bind, hrun]; rfl⟩
end
end Go.Rc
