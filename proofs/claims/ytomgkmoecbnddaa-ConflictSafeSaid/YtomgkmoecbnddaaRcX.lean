/- RcX: the compiler of regions that draw. -/
import Derived.Test.YtomgkmoecbnddaaRcW
set_option linter.unusedVariables false
set_option linter.unusedSimpArgs false
set_option linter.unnecessarySimpa false
namespace Go.Rc
open Go Go.Sym
section
variable {P : Program} {n : Nat} {ops : Array Oper}
theorem natsK_eq : ∀ (l : List Nat) (k : List Nat → Bool), natsK l k = k l
  | [], k => rfl
  | i :: l, k => by
    show (fN i fun i' => natsK l fun r => k (i' :: r)) = _
    rw [fN_eq, natsK_eq l]
theorem loudK_t {bf : Array Nat} {tk : List Nat} {j : Nat} {k : (DrF → DrF) → Bool} (h : loudK P n ops bf tk j k = true) : ∃ o f s gd, ops[j]? = some o ∧ DstOk n o.dst s ∧ GdOk n ops o gd ∧ (∀ c, o.op ≠ .defer c) ∧ WOk P n o.op f ∧ k (dOne (notBefore bf tk j) (rMk f s gd rNil)) = true := by
  unfold loudK at h
  split at h
  · cases h
  · rename_i o ho
    have hnd := copK_nd h
    obtain ⟨f, kd, h1, hs⟩ := copK_t h
    obtain ⟨s, hd, h2⟩ := dstK_t h1
    obtain ⟨gd, hg, h3⟩ := gdK_t h2
    rw [natsK_eq] at h3
    refine ⟨o, f, s, gd, ho, hd, hg, hnd, hs.w', ?_⟩
    cases gd with
    | none => cases s <;> exact h3
    | some gw => obtain ⟨g, w⟩ := gw; cases s <;> exact h3
/-- quiet operations -/
structure Qc (P : Program) (n : Nat) (ops : Array Oper) (listed : Array Bool) (i : Nat) (o : Oper) (t : Nat) (s : S) : Prop where
  ho : ops[i]? = some o
  hdst : o.dst = some t
  ht : t < n
  hs : ∀ v fr k, s v fr k = true → k (fr.set v (posOf t)) = true
  hnd : ∀ c, o.op ≠ .defer c
  hsel : ∀ (j : Nat) (o : Oper) cs b, ops[j]? = some o → o.op ≠ .select cs b
  hc : closed ops listed
  hfree : Region.free .any ops listed i = true
  hi : i ∈ Region.ready .any ops listed
variable {fu : Nat} {listed : Array Bool} {tk tk' : List Nat} {i : Nat} {o : Oper} {f : OpF} {t : Nat} {s : S} {r : DrF} {g rd : G} {wn : Bool} {val : T → V}
/-- what a read leaves behind it -/
theorem read_spec (q : QOk P n o.op f (valRn val)) {cf : Cf} {rb : RB} {fr : T} {h : Hp} {k : K1} {E : Env} {R : List Blk} {σ : Sg} {a : Act} {w : World} (e : f cf rb fr h k = true) (hfr : FrOk σ n fr a) (H : HR P E R σ h w)
    {tg na nb nd : Nat} {p : Pos} {l r : V} (hval : val fr = .c tg na nb nd p l r) : ∃ (v : V) (x : Value) (Sn : Sl), k v h = true ∧ Rel σ v x ∧ holds Sn w ∧ (∀ s ∈ Sn, s.1 = i ∧ Live h p ∧ ∃ c, σ p = some (s.2.1, c)) ∧ ∀ w', holds Sn w' → (execOp a.eval o).run P w' = .ok (.value x) w' := by
  obtain ⟨v, x, h1, h2, h3⟩ := q.ok cf rb fr h k E R σ a w e hfr H
  by_cases hl : Live h p
  · obtain ⟨b, c, ob, h4, h5, _⟩ := H.live p hl
    refine ⟨v, x, [(i, b, w.heap[b]?)], h1, h2, fun s hs => by simp at hs; subst hs; rfl, fun s hs => by simp at hs; subst hs; exact ⟨rfl, hl, c, h4⟩, fun w' hw => h3 w' o rfl fun p' b' c' hr hl' hs' => ?_⟩
    obtain ⟨_, _, _, _, _, _, hv⟩ := hr
    rw [hval] at hv
    injection hv with _ _ _ _ hp
    subst hp
    rw [h4] at hs'
    injection hs' with hs'
    injection hs' with hs' _
    subst hs'
    exact hw (i, b, w.heap[b]?) (List.mem_singleton.2 rfl)
  · refine ⟨v, x, [], h1, h2, fun s hs => by simp at hs, fun s hs => by simp at hs, fun w' _ => h3 w' o rfl fun p' b' c' hr hl' hs' => ?_⟩
    obtain ⟨_, _, _, _, _, _, hv⟩ := hr
    rw [hval] at hv
    injection hv with _ _ _ _ hp
    subst hp
    exact absurd hl' hl
theorem take_ok (c : Qc P n ops listed i o t s) (q : QOk P n o.op f noRn) (hg : o.guard = none) (hr : DrOk P n ops fu (listed.setIfInBounds i true) tk' r) (hsub : ∀ j ∈ tk, j ∈ tk') : DrOk P n ops (fu + 1) listed tk (dTake f s r) := ⟨fun cf rb fr h x rds kf E R σ a w Ss hcf hrb e hfr H hrd htk => by
  obtain ⟨v, x1, h1, h2, h3⟩ := q.ok cf rb fr h _ E R σ a w e hfr H
  exact dTake_ok c.ho c.hdst c.ht c.hnd c.hsel c.hc c.hfree c.hi hr hsub (Sn := []) (rds' := rds) hcf hrb h2 ⟨c.hnd, .inl ⟨wanted_none hg, fun w' _ => h3 w' o rfl fun _ _ _ h => h.elim⟩⟩ (fun s hs => by simp at hs) (fun s hs => by simp at hs) (fun _ _ h => h) (c.hs _ _ _ h1) hfr H hrd htk⟩
theorem takeG_ok (c : Qc P n ops listed i o t s) (q : QOk P n o.op f noRn) {j dj : Nat} (hg1 : o.guard = some (j, wn)) (hg2 : (ops[j]?).bind (·.dst) = some dj) (hg3 : dj < n) (hg4 : ∀ fr k, g fr k = true → k (fr.at (posOf dj)) = true) (hr : DrOk P n ops fu (listed.setIfInBounds i true) tk' r) (hsub : ∀ j ∈ tk, j ∈ tk') : DrOk P n ops (fu + 1) listed tk (dTakeG g wn f s r) := ⟨fun cf rb fr h x rds kf E R σ a w Ss hcf hrb e hfr H hrd htk => by
  obtain ⟨w1, w2⟩ := wanted_some (o := o) (w := wn) hg1 hg2 hg3 hfr.size
  rcases onGd_t (hg4 _ _ e) (hfr.get dj) with ⟨e1, e2⟩ | ⟨e1, e2⟩
  · obtain ⟨v, x1, h1, h2, h3⟩ := q.ok cf rb fr h _ E R σ a w e2 hfr H
    exact dTake_ok c.ho c.hdst c.ht c.hnd c.hsel c.hc c.hfree c.hi hr hsub (Sn := []) (rds' := rds) hcf hrb h2 ⟨c.hnd, .inl ⟨w1 e1, fun w' _ => h3 w' o rfl fun _ _ _ h => h.elim⟩⟩ (fun s hs => by simp at hs) (fun s hs => by simp at hs) (fun _ _ h => h) (c.hs _ _ _ h1) hfr H hrd htk
  · exact dTake_ok c.ho c.hdst c.ht c.hnd c.hsel c.hc c.hfree c.hi hr hsub (Sn := []) (rds' := rds) hcf hrb (.undef σ) ⟨c.hnd, .inr ⟨w2 e1, rfl⟩⟩ (fun s hs => by simp at hs) (fun s hs => by simp at hs) (fun _ _ h => h) (c.hs _ _ _ e2) hfr H hrd htk⟩
theorem read_ok (c : Qc P n ops listed i o t s) (hrdv : ∀ fr k, rd fr k = true → k (val fr) = true) (q : QOk P n o.op f (valRn val)) (hg : o.guard = none) (hr : DrOk P n ops fu (listed.setIfInBounds i true) tk' r) (hsub : ∀ j ∈ tk, j ∈ tk') (hi : i ∈ tk') : DrOk P n ops (fu + 1) listed tk (dRead i rd f s r) := ⟨fun cf rb fr h x rds kf E R σ a w Ss hcf hrb e hfr H hrd htk => by
  have e1 := hrdv _ _ e
  obtain ⟨_, _, _, _, p, _, _, hv, e2⟩ := onC_t e1
  obtain ⟨v, x1, Sn, h1, h2, h3, h4, h5⟩ := read_spec (i := i) q e2 hfr H hv
  exact dTake_ok c.ho c.hdst c.ht c.hnd c.hsel c.hc c.hfree c.hi hr hsub (Sn := Sn) (rds' := .cons i p rds) hcf hrb h2 ⟨c.hnd, .inl ⟨wanted_none hg, h5⟩⟩ h3 (fun s hs => by
    obtain ⟨q1, q2, c', q3⟩ := h4 s hs
    exact ⟨q1, hi, p, c', .inl ⟨rfl, rfl⟩, q2, q3⟩) (fun _ _ h => .inr h) (c.hs _ _ _ h1) hfr H hrd htk⟩
theorem readG_ok (c : Qc P n ops listed i o t s) (hrdv : ∀ fr k, rd fr k = true → k (val fr) = true) (q : QOk P n o.op f (valRn val)) {j dj : Nat} (hg1 : o.guard = some (j, wn)) (hg2 : (ops[j]?).bind (·.dst) = some dj) (hg3 : dj < n) (hg4 : ∀ fr k, g fr k = true → k (fr.at (posOf dj)) = true) (hr : DrOk P n ops fu (listed.setIfInBounds i true) tk' r) (hsub : ∀ j ∈ tk, j ∈ tk') (hi : i ∈ tk') : DrOk P n ops (fu + 1) listed tk (dReadG i rd g wn f s r) := ⟨fun cf rb fr h x rds kf E R σ a w Ss hcf hrb e hfr H hrd htk => by
  obtain ⟨w1, w2⟩ := wanted_some (o := o) (w := wn) hg1 hg2 hg3 hfr.size
  rcases onGd_t (hg4 _ _ e) (hfr.get dj) with ⟨e1, e2⟩ | ⟨e1, e2⟩
  · have e3 := hrdv _ _ e2
    obtain ⟨_, _, _, _, p, _, _, hv, e4⟩ := onC_t e3
    obtain ⟨v, x1, Sn, h1, h2, h3, h4, h5⟩ := read_spec (i := i) q e4 hfr H hv
    exact dTake_ok c.ho c.hdst c.ht c.hnd c.hsel c.hc c.hfree c.hi hr hsub (Sn := Sn) (rds' := .cons i p rds) hcf hrb h2 ⟨c.hnd, .inl ⟨w1 e1, h5⟩⟩ h3 (fun s hs => by
      obtain ⟨q1, q2, c', q3⟩ := h4 s hs
      exact ⟨q1, hi, p, c', .inl ⟨rfl, rfl⟩, q2, q3⟩) (fun _ _ h => .inr h) (c.hs _ _ _ h1) hfr H hrd htk
  · exact dTake_ok c.ho c.hdst c.ht c.hnd c.hsel c.hc c.hfree c.hi hr hsub (Sn := []) (rds' := rds) hcf hrb (.undef σ) ⟨c.hnd, .inr ⟨w2 e1, rfl⟩⟩ (fun s hs => by simp at hs) (fun s hs => by simp at hs) (fun _ _ h => h) (c.hs _ _ _ e2) hfr H hrd htk⟩
/-! the masks -/
def orN : List Nat → Nat
  | [] => 0
  | i :: l => Nat.lor (Nat.pow 2 i) (orN l)
theorem orK_eq : ∀ (l : List Nat) (k : Nat → Bool), orK l k = k (orN l)
  | [], k => rfl
  | i :: l, k => by
    show (orK l fun m => fN (Nat.lor (Nat.pow 2 i) m) k) = _
    rw [orK_eq l, fN_eq]
    rfl
theorem orN_bit : ∀ (l : List Nat) (j : Nat), (orN l).testBit j = decide (j ∈ l)
  | [], j => by simp [orN]
  | i :: l, j => by
    have h1 : (orN (i :: l)).testBit j = ((2 ^ i) ||| orN l).testBit j := rfl
    rw [h1, Nat.testBit_or, Nat.testBit_two_pow, orN_bit l j]
    by_cases h : i = j
    · subst h; simp
    · simp [h, Ne.symm h]
theorem land0 {a b : Nat} (h : Nat.beq (Nat.land a b) 0 = true) (j : Nat) (ha : a.testBit j = true) : b.testBit j = false := by
  have h1 : (a &&& b).testBit j = false := by
    have : a &&& b = 0 := beq_t h
    rw [this]; simp
  rw [Nat.testBit_and, ha] at h1
  simpa using h1
def Row.nr : Row → Nat
  | .mk i _ _ _ => i
def Row.bt : Row → Nat
  | .mk _ b _ _ => b
def Rw1.nr : Rw1 → Nat
  | .mk i _ _ _ _ => i
def Rw1.bt : Rw1 → Nat
  | .mk _ b _ _ _ => b
def Rw1Ok (ops : Array Oper) : Rw1 → Prop
  | .mk i b w d l => ∃ o, ops[i]? = some o ∧ b = orN [i] ∧ w = orN (i :: afts o) ∧ (∀ e ∈ afts o, e < ops.size ∧ e ≠ i) ∧ d = orN (dstL o) ∧ l = orN (o.looksAt ops)
def RowOk (ops : Array Oper) : Row → Prop
  | .mk i b w c => ∃ o, ops[i]? = some o ∧ b = orN [i] ∧ w = orN (i :: afts o) ∧ (∀ e ∈ afts o, e < ops.size ∧ e ≠ i) ∧ ∀ j oj, ops[j]? = some oj → j ≠ i → i ∈ afts oj ∨ o.apart ops oj = true ∨ c.testBit j = true
theorem rw1K_t : ∀ (l : List Nat) {k : List Rw1 → Bool}, rw1K ops ops.size l k = true → ∃ r, k r = true ∧ (∀ x ∈ r, Rw1Ok ops x) ∧ r.map Rw1.nr = l
  | [], k, h => ⟨[], h, fun x hx => by simp at hx, rfl⟩
  | i :: l, k, h => by
    unfold rw1K at h
    rw [fN_eq] at h
    split at h
    · cases h
    · rename_i o ho
      obtain ⟨h1, h2⟩ := bi_f h
      simp only [orK_eq] at h2
      obtain ⟨r, h3, h4, h5⟩ := rw1K_t l h2
      refine ⟨_, h3, fun x hx => ?_, by simp [Rw1.nr, h5]⟩
      rcases List.mem_cons.1 hx with rfl | hx
      · refine ⟨o, ho, rfl, rfl, fun e he => ?_, rfl, rfl⟩
        have := List.all_eq_true.1 h1 e he
        simp only [Bool.and_eq_true] at this
        refine ⟨blt_t this.1, fun e1 => ?_⟩
        subst e1
        simp at this
      · exact h4 x hx
theorem apart_mask {oi oj : Oper} {d d' lk lk' : Nat} (h1 : d = orN (dstL oi)) (h2 : lk = orN (oi.looksAt ops)) (h3 : d' = orN (dstL oj)) (h4 : lk' = orN (oj.looksAt ops))
    (h5 : Nat.beq (Nat.land d (Nat.lor lk' d')) 0 = true) (h6 : Nat.beq (Nat.land d' lk) 0 = true) : oi.apart ops oj = true := by
  subst h1 h2 h3 h4
  unfold Oper.apart
  simp only [Bool.and_eq_true]
  constructor
  · cases hd : oi.dst with
    | none => rfl
    | some x =>
      have hx : (orN (dstL oi)).testBit x = true := by rw [orN_bit]; simp [dstL, hd]
      have h7 := land0 h5 x hx
      have h7 : ((orN (oj.looksAt ops)) ||| (orN (dstL oj))).testBit x = false := h7
      rw [Nat.testBit_or, orN_bit, orN_bit] at h7
      simp only [Bool.or_eq_false_iff, decide_eq_false_iff_not] at h7
      obtain ⟨h8, h9⟩ := h7
      have h10 : oj.dst ≠ some x := fun e => h9 (by simp [dstL, e])
      simp [h8, h10]
  · cases hd : oj.dst with
    | none => rfl
    | some x =>
      have hx : (orN (dstL oj)).testBit x = true := by rw [orN_bit]; simp [dstL, hd]
      have h7 := land0 h6 x hx
      rw [orN_bit] at h7
      simp only [decide_eq_false_iff_not] at h7
      simp [h7]
theorem okM_t {i : Nat} {o : Oper} {b d lk : Nat} (hb : b = orN [i]) (hd : d = orN (dstL o)) (hl : lk = orN (o.looksAt ops)) {x : Rw1} (hx : Rw1Ok ops x) (h : okM i b d lk x = true) {oj : Oper} (hj : ops[x.nr]? = some oj) (hne : x.nr ≠ i) :
    i ∈ afts oj ∨ o.apart ops oj = true := by
  obtain ⟨j, bj, w, d', lk'⟩ := x
  obtain ⟨oj', h1, h2, h3, h4, h5, h6⟩ := hx
  have hj : ops[j]? = some oj := hj
  rw [h1] at hj
  injection hj with hj
  subst hj
  have hne : j ≠ i := hne
  unfold okM at h
  simp only at h
  split at h
  · rename_i he
    exact absurd (beq_t he) hne
  · split at h
    · rename_i hz
      refine .inl (Classical.byContradiction fun hn => ?_)
      have : Nat.land w b = 0 := by
        apply Nat.eq_of_testBit_eq
        intro q
        show (w &&& b).testBit q = _
        rw [Nat.testBit_and, h3, hb, orN_bit, orN_bit]
        simp only [Nat.zero_testBit, Bool.and_eq_false_imp, decide_eq_true_eq, decide_eq_false_iff_not, List.mem_singleton]
        intro hq e
        subst e
        rcases List.mem_cons.1 hq with e | e
        · exact hne e.symm
        · exact hn e
      rw [this] at hz
      cases hz
    · split at h
      · cases h
      · rename_i h7
        exact .inr (apart_mask hd hl h5 h6 h7 h)
theorem cK_t {i b d lk : Nat} : ∀ (l : List Rw1) {k : Nat → Bool}, (∀ x ∈ l, Rw1Ok ops x) → cK i b d lk l k = true → ∃ c, k c = true ∧ ∀ x ∈ l, okM i b d lk x = true ∨ c.testBit x.nr = true
  | [], k, _, h => ⟨0, h, fun x hx => by simp at hx⟩
  | r :: l, k, hl, h => by
    unfold cK at h
    split at h
    · rename_i ho
      obtain ⟨c, h1, h2⟩ := cK_t l (fun x hx => hl x (List.mem_cons_of_mem _ hx)) h
      refine ⟨c, h1, fun x hx => ?_⟩
      rcases List.mem_cons.1 hx with rfl | hx
      · exact .inl ho
      · exact h2 x hx
    · obtain ⟨c, h1, h2⟩ := cK_t l (fun x hx => hl x (List.mem_cons_of_mem _ hx)) h
      obtain ⟨j, bj, w, d', lk'⟩ := r
      have h1 : fN (Nat.lor bj c) k = true := h1
      rw [fN_eq] at h1
      refine ⟨_, h1, fun x hx => ?_⟩
      have e : ∀ q, (Nat.lor bj c).testBit q = (bj.testBit q || c.testBit q) := fun q => Nat.testBit_or bj c q
      rcases List.mem_cons.1 hx with rfl | hx
      · obtain ⟨o, _, hb, _⟩ := hl _ (List.mem_cons_self ..)
        refine .inr ?_
        show (Nat.lor bj c).testBit j = true
        rw [e, hb, orN_bit]
        simp
      · refine (h2 x hx).imp id fun h3 => ?_
        rw [e, h3]; simp
theorem rw2K_t {all : List Rw1} (hall : ∀ x ∈ all, Rw1Ok ops x) (hi : all.map Rw1.nr = List.range ops.size) : ∀ (l : List Rw1) {k : List Row → Bool}, (∀ x ∈ l, x ∈ all) → rw2K all l k = true → ∃ r, k r = true ∧ (∀ x ∈ r, RowOk ops x) ∧ r.map Row.nr = l.map Rw1.nr
  | [], k, _, h => ⟨[], h, fun x hx => by simp at hx, rfl⟩
  | .mk i b w d lk :: l, k, hl, h => by
    unfold rw2K at h
    obtain ⟨c, h1, h2⟩ := cK_t all hall h
    obtain ⟨r, h3, h4, h5⟩ := rw2K_t hall hi l (fun x hx => hl x (List.mem_cons_of_mem _ hx)) h1
    refine ⟨_, h3, fun x hx => ?_, by simp [Rw1.nr, Row.nr, h5]⟩
    rcases List.mem_cons.1 hx with rfl | hx
    · obtain ⟨o, g1, g2, g3, g4, g5, g6⟩ := hall _ (hl _ (List.mem_cons_self ..))
      refine ⟨o, g1, g2, g3, g4, fun j oj hj hne => ?_⟩
      have hm : j ∈ all.map Rw1.nr := by rw [hi]; exact List.mem_range.2 (Array.getElem?_eq_some_iff.1 hj).1
      obtain ⟨y, hy, rfl⟩ := List.mem_map.1 hm
      rcases h2 y hy with h6 | h6
      · exact (okM_t g2 g5 g6 (hall y hy) h6 hj hne).imp id .inl
      · exact .inr (.inr h6)
    · exact h4 x hx
/-- what the rows of a region are -/
def RowsOk (ops : Array Oper) (rows : List Row) : Prop := (∀ x ∈ rows, RowOk ops x) ∧ rows.map Row.nr = List.range ops.size
theorem rowsK_t {k : List Row → Bool} (h : rowsK ops k = true) : ∃ r, k r = true ∧ RowsOk ops r := by
  unfold rowsK at h
  obtain ⟨r, h1, h2, h3⟩ := rw1K_t _ h
  obtain ⟨r', h4, h5, h6⟩ := rw2K_t h2 h3 r (fun x hx => hx) h1
  exact ⟨r', h4, h5, h6.trans h3⟩
/-- u: the bits of those that have not come up -/
def Msk (ops : Array Oper) (listed : Array Bool) (u : Nat) : Prop := listed.size = ops.size ∧ ∀ i, u.testBit i = !listed.getD i true
theorem Msk.init : Msk ops (Array.replicate ops.size false) (Nat.sub (Nat.pow 2 ops.size) 1) := ⟨by simp, fun i => by
  show (2 ^ ops.size - 1).testBit i = _
  rw [Nat.testBit_two_pow_sub_one]
  by_cases h : i < ops.size <;> simp [h]⟩
theorem Msk.set {listed : Array Bool} {u i : Nat} (hm : Msk ops listed u) (hi : listed.getD i true = false) : Msk ops (listed.setIfInBounds i true) (Nat.xor u (orN [i])) := ⟨by simp [hm.1], fun j => by
  show (u ^^^ orN [i]).testBit j = _
  have hlt : i < listed.size := Classical.byContradiction fun hn => by simp [hn] at hi
  rw [Nat.testBit_xor, hm.2 j, orN_bit]
  by_cases h : j = i
  · subst h
    simp [hi, hlt]
  · simp [h, Array.getElem?_setIfInBounds, Ne.symm h]⟩
def rdyM (u : Nat) (rows : List Row) : List Row := rows.filter fun
  | .mk _ b w _ => Nat.beq (Nat.land u w) b
theorem rdyK_eq (u : Nat) : ∀ (rows : List Row) (k : List Row → Bool), rdyK u rows k = k (rdyM u rows)
  | [], k => rfl
  | .mk i b w c :: l, k => by
    unfold rdyK rdyM
    rw [List.filter_cons]
    split
    · rename_i h
      simp only [h]
      exact rdyK_eq u l _
    · rename_i h
      simp only [h]
      exact rdyK_eq u l _
theorem rdy_iff {listed : Array Bool} {u : Nat} (hm : Msk ops listed u) {i b w c : Nat} (hr : RowOk ops (.mk i b w c)) : Nat.beq (Nat.land u w) b = true ↔ (listed.getD i true = false ∧ ∃ o, ops[i]? = some o ∧ ∀ e ∈ o.after, Region.binds .any e = true → listed.getD e.on false = true) := by
  obtain ⟨o, h1, h2, h3, h4, _⟩ := hr
  constructor
  · intro h
    have h : u &&& w = b := beq_t h
    have hb : ∀ q, (u.testBit q && w.testBit q) = b.testBit q := fun q => by rw [← Nat.testBit_and, h]
    refine ⟨?_, o, h1, fun e he hbn => ?_⟩
    · have := hb i
      rw [h2, h3, orN_bit, orN_bit, hm.2] at this
      simpa using this
    · have hmem : e.on ∈ afts o := List.mem_map.2 ⟨e, List.mem_filter.2 ⟨by simpa using he, hbn⟩, rfl⟩
      obtain ⟨hlt, hne⟩ := h4 _ hmem
      have := hb e.on
      rw [h2, h3, orN_bit, orN_bit, hm.2] at this
      simp [hmem, hne] at this
      rw [← hm.1] at hlt
      simpa [hlt] using this
  · rintro ⟨g1, o', g2, g3⟩
    rw [h1] at g2
    injection g2 with g2
    subst g2
    have : u &&& w = b := by
      apply Nat.eq_of_testBit_eq
      intro q
      rw [Nat.testBit_and, h2, h3, orN_bit, orN_bit, hm.2]
      by_cases hq : q = i
      · subst hq; simp [g1]
      · by_cases hq2 : q ∈ afts o
        · obtain ⟨e, he, rfl⟩ := List.mem_map.1 hq2
          obtain ⟨he1, he2⟩ := List.mem_filter.1 he
          have g4 := g3 e (by simpa using he1) he2
          have hlt := (h4 _ hq2).1
          rw [← hm.1] at hlt
          simp [hlt] at g4
          simp [hq, hlt, g4]
        · simp [hq, hq2]
    show Nat.beq (u &&& w) b = true
    rw [this]
    exact Nat.beq_refl b
theorem rdy_eq {listed : Array Bool} {u : Nat} {rows : List Row} (hm : Msk ops listed u) (hr : RowsOk ops rows) : Region.ready .any ops listed = (rdyM u rows).map Row.nr := by
  have e : ∀ r ∈ rows, (match r with | .mk _ b w _ => Nat.beq (Nat.land u w) b) = decide (r.nr ∈ Region.ready .any ops listed) := fun r hr' => by
    obtain ⟨i, b, w, c⟩ := r
    have := rdy_iff hm (hr.1 _ hr')
    rw [← mem_ready] at this
    exact Bool.eq_iff_iff.2 (this.trans (decide_eq_true_iff).symm)
  have e2 : rdyM u rows = rows.filter fun r => decide (r.nr ∈ Region.ready .any ops listed) := List.filter_congr e
  rw [e2]
  have e3 : (rows.filter fun r => decide (r.nr ∈ Region.ready .any ops listed)).map Row.nr = (rows.map Row.nr).filter fun i => decide (i ∈ Region.ready .any ops listed) := by
    rw [List.filter_map]; rfl
  rw [e3, hr.2]
  unfold Region.ready
  refine List.filter_congr fun i hi => ?_
  refine Bool.eq_iff_iff.2 ?_
  rw [decide_eq_true_iff, List.mem_filter]
  exact ⟨fun h => ⟨hi, h⟩, fun h => h.2⟩
theorem free_t {listed : Array Bool} {u : Nat} (hm : Msk ops listed u) {i b w c : Nat} (hr : RowOk ops (.mk i b w c)) (h : Nat.beq (Nat.land u c) 0 = true) : Region.free .any ops listed i = true := by
  obtain ⟨o, h1, _, _, _, h5⟩ := hr
  unfold Region.free
  rw [h1]
  refine List.all_eq_true.2 fun j hj => ?_
  cases hl : listed.getD j true with
  | true => simp
  | false =>
    by_cases hji : j = i
    · simp [hji]
    · have hj : j < ops.size := List.mem_range.1 hj
      have hoj : ops[j]? = some ops[j] := Array.getElem?_eq_getElem hj
      rw [hoj]
      simp only [Bool.or_eq_true]
      refine .inr ?_
      rcases h5 j _ hoj hji with h6 | h6 | h6
      · obtain ⟨e, he, rfl⟩ := List.mem_map.1 h6
        obtain ⟨he1, he2⟩ := List.mem_filter.1 he
        refine .inl (Array.any_eq_true'.2 ⟨e, by simpa using he1, ?_⟩)
        simp [he2]
      · exact .inr h6
      · have := land0 h j (by rw [hm.2, hl]; rfl)
        rw [h6] at this
        cases this
theorem fndM_t {u : Nat} : ∀ {rs : List Row} {r : Row}, fndM P ops u rs = some r → r ∈ rs ∧ ∃ i b w c, r = .mk i b w c ∧ Nat.beq (Nat.land u c) 0 = true
  | [], r, h => by cases h
  | .mk i b w c :: l, r, h => by
    unfold fndM at h
    split at h
    · obtain ⟨h1, h2⟩ := fndM_t h
      exact ⟨List.mem_cons_of_mem _ h1, h2⟩
    · rename_i hz
      split at h
      · obtain ⟨h1, h2⟩ := fndM_t h
        exact ⟨List.mem_cons_of_mem _ h1, h2⟩
      · split at h
        · injection h with h
          subst h
          exact ⟨List.mem_cons_self .., i, b, w, c, rfl, hz⟩
        · obtain ⟨h1, h2⟩ := fndM_t h
          exact ⟨List.mem_cons_of_mem _ h1, h2⟩
theorem rdy1_t {listed : Array Bool} {u : Nat} {rows : List Row} {j : Nat} (hm : Msk ops listed u) (hr : RowsOk ops rows) (h : rdy1 u rows j = true) : Region.ready .any ops listed = [j] := by
  unfold rdy1 at h
  rw [rdyK_eq] at h
  rw [rdy_eq hm hr]
  split at h
  · rename_i a _ _ _ he
    rw [he, ← beq_t h]
    rfl
  · cases h
theorem parC_t {listed : Array Bool} {rows : List Row} {u i bi j bj : Nat} (hm : Msk ops listed u) (hr : RowsOk ops rows) (hbi : bi = orN [i]) (hbj : bj = orN [j]) (hi : listed.getD i true = false) (hj : listed.getD j true = false) (h : parC ops rows u i bi j bj = true) :
    ∃ oi oj, ops[i]? = some oi ∧ ops[j]? = some oj ∧ allocOp oi.op = true ∧ oi.guard = none ∧ oi.apart ops oj = true ∧ i ≠ j ∧ Region.ready .any ops (listed.setIfInBounds i true) = [j] ∧ Region.ready .any ops (listed.setIfInBounds j true) = [i] := by
  subst hbi hbj
  unfold parC at h
  split at h
  · rename_i oi oj hi' hj'
    simp only [Bool.and_eq_true] at h
    obtain ⟨⟨⟨⟨⟨h1, h2⟩, h3⟩, h4⟩, h5⟩, h6⟩ := h
    refine ⟨oi, oj, hi', hj', h1, by simpa using h2, h3, fun e => ?_, rdy1_t (hm.set hi) hr h5, rdy1_t (hm.set hj) hr h6⟩
    subst e
    simp at h4
  · cases h
theorem parK_t {listed : Array Bool} {tk : List Nat} {i j : Nat} {k : (DrF → DrF) → Bool} (hp : ∃ oi oj, ops[i]? = some oi ∧ ops[j]? = some oj ∧ allocOp oi.op = true ∧ oi.guard = none ∧ oi.apart ops oj = true ∧ i ≠ j ∧ Region.ready .any ops (listed.setIfInBounds i true) = [j] ∧ Region.ready .any ops (listed.setIfInBounds j true) = [i]) (hsel : ∀ (j : Nat) (o : Oper) cs b, ops[j]? = some o → o.op ≠ .select cs b) (hne : Region.ready .any ops listed ≠ []) (hmem : ∀ k ∈ Region.ready .any ops listed, k = i ∨ k = j) (h : parK P n ops (Region.before ops) tk i j k = true) :
    ∃ b : DrF → DrF, k b = true ∧ ∀ r fu, DrOk P n ops fu ((listed.setIfInBounds i true).setIfInBounds j true) tk r → DrOk P n ops (fu + 2) listed tk (b r) := by
  obtain ⟨oi, oj, hi, hj, ha, hg, hap, hij, hri, hrj⟩ := hp
  unfold parK at h
  rw [hi] at h
  have hnd := copK_nd h
  obtain ⟨f, kd, h1, hw, hA⟩ := copA_t ha h
  obtain ⟨s, hd, h2⟩ := dstK_t h1
  rcases hd with ⟨_, rfl⟩ | ⟨t, s, hdst, ht, rfl, hput⟩
  · cases h2
  · have h2 : (natsK (notBefore (Region.before ops) tk i) fun na => loudK P n ops (Region.before ops) tk j fun b => k fun r => dPar f (b (dOne na (rSet f s rNil) r))) = true := h2
    rw [natsK_eq] at h2
    obtain ⟨o2, f2, s2, gd2, ho2, hd2, hg2, hnd2, hw2, h3⟩ := loudK_t h2
    rw [hj] at ho2
    injection ho2 with ho2
    subst ho2
    exact ⟨_, h3, fun r fu hr => par_ok hi hj hg hdst ht hput hap hnd hnd2 hsel hd2 hg2 hw hA hw2 hne hmem hri hrj hij hr⟩
theorem schK_t (hsel : ∀ (j : Nat) (o : Oper) cs b, ops[j]? = some o → o.op ≠ .select cs b) {rows : List Row} (hrows : RowsOk ops rows) : ∀ (fu : Nat) {listed : Array Bool} {u : Nat} {tk : List Nat} {k : DrF → Bool}, closed ops listed → Msk ops listed u → schK P n ops (Region.before ops) rows (fu + 1) u tk k = true → ∃ r, DrOk P n ops fu listed tk r ∧ k r = true := by
  intro fu
  induction fu using Nat.strongRecOn with
  | ind fu ih0 =>
  intro listed u tk k hc hm h
  unfold schK at h
  rw [rdyK_eq] at h
  have hrd := rdy_eq hm hrows
  have hsub : ∀ r ∈ rdyM u rows, r ∈ rows := fun r hr => (List.mem_filter.1 hr).1
  have hun : ∀ r ∈ rdyM u rows, listed.getD r.nr true = false ∧ r.bt = orN [r.nr] ∧ r.nr ∈ Region.ready .any ops listed := fun r hr => by
    obtain ⟨i, b, w, c⟩ := r
    obtain ⟨_, _, h2, _⟩ := hrows.1 _ (hsub _ hr)
    have : i ∈ Region.ready .any ops listed := by rw [hrd]; exact List.mem_map.2 ⟨_, hr, rfl⟩
    exact ⟨(mem_ready.1 this).1, h2, this⟩
  -- no rounds are left
  have hz : ∀ {u tk k}, fu = 0 → schK P n ops (Region.before ops) rows fu u tk k = true → False := fun e h => by
    subst e; unfold schK at h; cases h
  split at h
  · rename_i hr
    exact ⟨_, dDone_ok (by rw [hrd, hr]; rfl), h⟩
  · rename_i r0 rl hre
    have ih : ∀ {listed u tk k}, closed ops listed → Msk ops listed u → schK P n ops (Region.before ops) rows fu u tk k = true → ∃ fu', fu = fu' + 1 ∧ ∃ r, DrOk P n ops fu' listed tk r ∧ k r = true := fun {listed u tk k} h1 h2 h3 => by
      cases fu with
      | zero => exact (hz rfl h3).elim
      | succ fu' => exact ⟨fu', rfl, ih0 fu' (by omega) h1 h2 h3⟩
    have hne : Region.ready .any ops listed ≠ [] := by rw [hrd, hre]; simp
    split at h
    · rename_i i b w c hfi
      obtain ⟨hmem, i', b', w', c', he, hfr⟩ := fndM_t hfi
      cases he
      rw [← hre] at hmem
      obtain ⟨hli, hb, hmem'⟩ := hun _ hmem
      have hb : b = orN [i] := hb
      subst hb
      split at h
      · rename_i o ho
        have hfree := free_t hm (hrows.1 _ (hsub _ hmem)) hfr
        have hnd := copK_nd h
        obtain ⟨f, kd, h1, hs⟩ := copK_t h
        obtain ⟨s, hd, h2⟩ := dstK_t h1
        obtain ⟨gd, hg, h3⟩ := gdK_t h2
        rw [fN_eq] at h3
        obtain ⟨fu', rfl, r, hr, h4⟩ := ih (hc.set hmem') (hm.set hli) h3
        rcases hd with ⟨_, rfl⟩ | ⟨t, s, hdst, ht, rfl, hput⟩
        · cases kd <;> rcases hg with ⟨_, rfl⟩ | ⟨_, _, _, _, _, _, _, rfl, _⟩ <;> cases h4
        · have qc : Qc P n ops listed i o t s := ⟨ho, hdst, ht, hput, hnd, hsel, hc, hfree, hmem'⟩
          have hsub : ∀ j ∈ tk, j ∈ (match readOp o.op with | true => i :: tk | false => tk) := fun j hj => by
            split
            · exact List.mem_cons_of_mem _ hj
            · exact hj
          cases hs with
          | loud => rcases hg with ⟨_, rfl⟩ | ⟨_, _, _, _, _, _, _, rfl, _⟩ <;> cases h4
          | quiet q =>
            rcases hg with ⟨hg1, rfl⟩ | ⟨j, wn, dj, g, hg1, hg2, hg3, rfl, hg4⟩
            · exact ⟨_, take_ok qc q hg1 hr hsub, h4⟩
            · exact ⟨_, takeG_ok qc q hg1 hg2 hg3 hg4 hr hsub, h4⟩
          | read hrdv q =>
            rcases hg with ⟨hg1, rfl⟩ | ⟨j, wn, dj, g, hg1, hg2, hg3, rfl, hg4⟩
            · obtain ⟨hro, h5⟩ := bi_f h4
              rw [fN_eq] at h5
              exact ⟨_, read_ok qc hrdv q hg1 hr hsub (by rw [hro]; simp), h5⟩
            · obtain ⟨hro, h5⟩ := bi_f h4
              rw [fN_eq] at h5
              exact ⟨_, readG_ok qc hrdv q hg1 hg2 hg3 hg4 hr hsub (by rw [hro]; simp), h5⟩
      · cases h
    · split at h
      · rename_i i b w c _
        have hre' : Region.ready .any ops listed = [i] := by rw [hrd, hre]; rfl
        obtain ⟨hli, hb, hmem'⟩ := hun (.mk i b w c) (by rw [hre]; simp)
        have hb : b = orN [i] := hb
        subst hb
        obtain ⟨o, f, s, gd, ho, hd, hg, hnd, hw, h1⟩ := loudK_t h
        rw [fN_eq] at h1
        obtain ⟨fu', rfl, r, hr, h2⟩ := ih (hc.set hmem') (hm.set hli) h1
        refine ⟨_, ⟨fun cf rb fr h x rds kf E R σ a w Ss hcf hrb e hfr H hrd htk => ⟨fun e1 => (by rw [hre'] at e1; cases e1), fun j hj => ?_⟩⟩, h2⟩
        rw [hre'] at hj
        simp at hj
        subst hj
        exact dOne_ok ho hd hg hnd hw hr hcf hrb e hfr H hrd htk
      · rename_i i b w c j b' w' c' _
        have hre' : Region.ready .any ops listed = [i, j] := by rw [hrd, hre]; rfl
        obtain ⟨hli, hb, hmi⟩ := hun (.mk i b w c) (by rw [hre]; simp)
        obtain ⟨hlj, hb', hmj⟩ := hun (.mk j b' w' c') (by rw [hre]; simp)
        have hb : b = orN [i] := hb
        have hb' : b' = orN [j] := hb'
        subst hb hb'
        have hli : listed.getD i true = false := hli
        have hlj : listed.getD j true = false := hlj
        have hmi : i ∈ Region.ready .any ops listed := hmi
        have hmj : j ∈ Region.ready .any ops listed := hmj
        have hmq : ∀ q ∈ Region.ready .any ops listed, q = i ∨ q = j := fun q hq => by
          rw [hre'] at hq
          simpa using hq
        split at h
        · rename_i hp
          have hp := parC_t hm hrows rfl rfl hli hlj hp
          split at h
          · cases h
          · rename_i fu2
            obtain ⟨b, h1, hb⟩ := parK_t hp hsel hne hmq h
            obtain ⟨_, _, _, _, _, _, _, hij, hri, _⟩ := hp
            rw [fN_eq] at h1
            cases fu2 with
            | zero => unfold schK at h1; cases h1
            | succ fu3 =>
              obtain ⟨r, hr, h2⟩ := ih0 fu3 (by omega) (hc.set hmi |>.set (by rw [hri]; simp)) ((hm.set hli).set (mem_ready.1 (by rw [hri]; simp : j ∈ Region.ready .any ops _)).1) h1
              exact ⟨_, hb r fu3 hr, h2⟩
        · split at h
          · rename_i hp
            have hp := parC_t hm hrows rfl rfl hlj hli hp
            split at h
            · cases h
            · rename_i fu2
              obtain ⟨b, h1, hb⟩ := parK_t hp hsel hne (fun q hq => (hmq q hq).symm) h
              obtain ⟨_, _, _, _, _, _, _, hij, hri, _⟩ := hp
              rw [fN_eq] at h1
              cases fu2 with
              | zero => unfold schK at h1; cases h1
              | succ fu3 =>
                obtain ⟨r, hr, h2⟩ := ih0 fu3 (by omega) (hc.set hmj |>.set (by rw [hri]; simp)) ((hm.set hlj).set (mem_ready.1 (by rw [hri]; simp : i ∈ Region.ready .any ops _)).1) h1
                exact ⟨_, hb r fu3 hr, h2⟩
          · obtain ⟨o, f, s, gd, ho, hd, hg, hnd, hw, h1⟩ := loudK_t h
            obtain ⟨o2, f2, s2, gd2, ho2, hd2, hg2, hnd2, hw2, h2⟩ := loudK_t h1
            rw [fN_eq] at h2
            obtain ⟨fu', rfl, r, hr, h3⟩ := ih (hc.set hmi) (hm.set hli) h2
            rw [fN_eq] at h3
            obtain ⟨fu'', he, r2, hr2, h4⟩ := ih (hc.set hmj) (hm.set hlj) h3
            obtain rfl : fu' = fu'' := by omega
            refine ⟨_, ⟨fun cf rb fr h x rds kf E R σ a w Ss hcf hrb e hfr H hrd htk => ⟨fun e1 => (by rw [hre'] at e1; cases e1), fun j' hj => ?_⟩⟩, h4⟩
            obtain ⟨e1, e2⟩ := bi_f e
            rw [hre'] at hj
            simp at hj
            rcases hj with rfl | rfl
            · exact dOne_ok ho hd hg hnd hw hr hcf hrb e1 hfr H hrd htk
            · exact dOne_ok ho2 hd2 hg2 hnd2 hw2 hr2 hcf hrb e2 hfr H hrd htk
      · cases h
end
end Go.Rc
