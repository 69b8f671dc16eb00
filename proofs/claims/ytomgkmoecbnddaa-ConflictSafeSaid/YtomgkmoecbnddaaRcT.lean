/- RcT: operations carried out on the machine; regions in one order. -/
import Derived.Test.YtomgkmoecbnddaaRcS
import Derived.AtR
import Derived.Orders
import Derived.RangeFuncIn
set_option linter.unusedVariables false
set_option linter.unusedSimpArgs false
set_option linter.unnecessarySimpa false
namespace Go.Rc
open Go Go.Sym
section
variable {P : Program}
theorem Rounds.mono {l : Nat} {g : FuncId} {tm : Array Value} {ac bd : Code} {w : World} {Φ Ψ : Value → World → Prop} (h : Rounds P l g tm ac bd w Φ) (hi : ∀ x w', Φ x w' → Ψ x w') : Rounds P l g tm ac bd w Ψ := fun c cs => by
  obtain ⟨x, w', h1, h2⟩ := h c cs
  exact ⟨x, w', hi _ _ h1, h2⟩
theorem OpW.mono {o : Oper} {a : Act} {w : World} {Φ Ψ : Value → World → Prop} (h : OpW P o a w Φ) (hi : ∀ x w', Φ x w' → Ψ x w') : OpW P o a w Ψ := by
  rcases h with ⟨x, w', h1, h2⟩ | ⟨w', h1, h2⟩ | ⟨g, args, w1, h1, h2⟩
  · exact .inl ⟨x, w', h1, hi _ _ h2⟩
  · exact .inr (.inl ⟨w', h1, hi _ _ h2⟩)
  · exact .inr (.inr ⟨g, args, w1, h1, h2.mono fun e w' ⟨x, h3, h4⟩ => ⟨x, h3, hi _ _ h4⟩⟩)
theorem OpR.mono {o : Oper} {a : Act} {w : World} {Φ Ψ : Value → World → Prop} (h : OpR P o a w Φ) (hi : ∀ x w', Φ x w' → Ψ x w') : OpR P o a w Ψ := by
  rcases h with h | ⟨l, g, tm, ac, bd, h1, h2⟩
  · exact .inl (h.mono hi)
  · exact .inr ⟨l, g, tm, ac, bd, h1, h2.mono hi⟩
variable {b : Frame} {a : Act} {k : List Item} {cs : List Frame} {w : World} {ops : Array Oper}
theorem op_steps {i : Nat} {rest : List Nat} {o : Oper} (ho : ops[i]? = some o) (hw : Region.wanted o (yielded ops a.tmps) = true) (hd : ∀ c, o.op ≠ .defer c) {Φ : Value → World → Prop} (h : OpR P o a w Φ) :
    ∃ x w', Φ x w' ∧ Steps P (lone (b.atR a (.inRegion ops (i :: rest) :: k)) cs w) (lone (b.atR (a.put o.dst x) (.inRegion ops rest :: k)) cs w') := by
  have hg := stepGR_op (P := P) (b := b) (k := k) (cs := cs) (w := w) (rest := rest) ho hw
  rw [Oper.semAt_eq _ _ _ hd] at hg
  have hfin : ∀ v, (b.atR a (.inRegion ops (i :: rest) :: k)).finish v = b.atR (a.put o.dst v) (.inRegion ops rest :: k) := by
    intro v; rw [Frame.finish_atR, ho]; rfl
  rcases h with (⟨x, w', hr, hx⟩ | ⟨w', hr, hx⟩ | ⟨g, args, w1, hr, hc⟩) | ⟨l, g, tm, ac, bd, hr, hc⟩
  · refine ⟨x, w', hx, .one (step_lone_go ?_)⟩
    rw [hg, ← hfin]; simp [stepG.apply, hr]
  · refine ⟨undef, w', hx, .one (step_lone_go ?_)⟩
    rw [hg, ← hfin]; simp [stepG.apply, hr]
  · obtain ⟨e, w'', fr, hR, hsteps, _, hleave⟩ := hc (b.atR a (.inRegion ops (i :: rest) :: k) :: cs)
    obtain ⟨x, rfl, hx⟩ := hR
    have henter : step P (lone (b.atR a (.inRegion ops (i :: rest) :: k)) cs w) = .next (lone (Frame.enter P g args .normal) (b.atR a (.inRegion ops (i :: rest) :: k) :: cs) w1) :=
      step_lone_go (by rw [hg]; simp [stepG.apply, hr, Frame.atR])
    refine ⟨x, w'', hx, .head henter (Steps.trans hsteps (.one ?_))⟩
    rw [← hfin]; exact step_leave_returned hleave
  · obtain ⟨x, w'', hx, hs⟩ := hc (b.atR a (.inRegion ops (i :: rest) :: k)) cs
    have henter : step P (lone (b.atR a (.inRegion ops (i :: rest) :: k)) cs w) = .next (lone (Frame.round l g tm ac bd .normal) (b.atR a (.inRegion ops (i :: rest) :: k) :: cs) w) :=
      step_lone_go (by rw [hg]; simp [stepG.apply, hr, Frame.atR])
    refine ⟨x, w'', hx, .head henter ?_⟩
    rw [← hfin]; exact hs
end
/-- operations of a region, in the order l -/
abbrev OpP := Oper → Act → World → (Value → World → Prop) → Prop
def stepX (W : OpP) (ops : Array Oper) (o : Oper) (a : Act) (w : World) (Φ : Act → World → Prop) : Prop :=
  (∀ c, o.op ≠ .defer c) ∧ ((Region.wanted o (yielded ops a.tmps) = true ∧ W o a w fun x w' => Φ (a.put o.dst x) w') ∨ (Region.wanted o (yielded ops a.tmps) = false ∧ Φ (a.put o.dst undef) w))
def runL (W : OpP) (ops : Array Oper) (Φ : Act → World → Prop) : List Nat → Act → World → Prop
  | [], a, w => Φ a w
  | i :: l, a, w => match ops[i]? with
    | none => runL W ops Φ l a w
    | some o => stepX W ops o a w (runL W ops Φ l)
theorem runL_steps {P : Program} {ops : Array Oper} {Φ : Act → World → Prop} {b : Frame} {k : List Item} {cs : List Frame} : ∀ (l : List Nat) (a : Act) (w : World), runL (OpR P) ops Φ l a w →
    ∃ a' w', Φ a' w' ∧ Steps P (lone (b.atR a (.inRegion ops l :: k)) cs w) (lone (b.atR a' k) cs w')
  | [], a, w, h => ⟨a, w, h, .one stepR_region_end⟩
  | i :: l, a, w, h => by
    unfold runL at h
    cases ho : ops[i]? with
    | none =>
      rw [ho] at h
      obtain ⟨a', w', h1, h2⟩ := runL_steps l a w h
      have hs := stepR_op_skip (P := P) (b := b) (a := a) (k := k) (cs := cs) (w := w) (ops := ops) (i := i) (rest := l) (by simp [ho])
      simp only [ho, Option.bind_none, Act.put] at hs
      exact ⟨a', w', h1, .head hs h2⟩
    | some o =>
      rw [ho] at h
      obtain ⟨hd, ⟨hw, h⟩ | ⟨hw, h⟩⟩ := h
      · obtain ⟨x, w1, h1, h2⟩ := op_steps (b := b) (k := k) (cs := cs) (rest := l) ho hw hd h
        obtain ⟨a', w', h3, h4⟩ := runL_steps l _ _ h1
        exact ⟨a', w', h3, Steps.trans h2 h4⟩
      · obtain ⟨a', w', h1, h2⟩ := runL_steps l _ w h
        have hs := stepR_op_skip (P := P) (b := b) (a := a) (k := k) (cs := cs) (w := w) (ops := ops) (i := i) (rest := l) (by simp [ho, hw])
        simp only [ho, Option.bind_some] at hs
        exact ⟨a', w', h1, .head hs h2⟩
/-! ### guards, destinations -/
def GdOk (n : Nat) (ops : Array Oper) (o : Oper) (gd : Option (G × Bool)) : Prop :=
  (o.guard = none ∧ gd = none) ∨ ∃ j w dj g, o.guard = some (j, w) ∧ (ops[j]?).bind (·.dst) = some dj ∧ dj < n ∧ gd = some (g, w) ∧ ∀ fr k, g fr k = true → k (fr.at (posOf dj)) = true
theorem gdK_t {n : Nat} {ops : Array Oper} {o : Oper} {k : Option (G × Bool) → Bool} (h : gdK n ops o k = true) : ∃ gd, GdOk n ops o gd ∧ k gd = true := by
  unfold gdK at h
  split at h
  · rename_i hg
    exact ⟨none, .inl ⟨hg, rfl⟩, h⟩
  · rename_i j w hg
    split at h
    · cases h
    · rename_i dj hd
      obtain ⟨h1, h2⟩ := bi_f h
      rw [posK_eq, gPosK_eq] at h2
      exact ⟨_, .inr ⟨j, w, dj, _, hg, hd, blt_t h1, rfl, fun fr k h => gPos_t _ h⟩, h2⟩
def DstOk (n : Nat) (d : Option Tmp) (s : Option S) : Prop :=
  (d = none ∧ s = none) ∨ ∃ t r, d = some t ∧ t < n ∧ s = some r ∧ ∀ v fr k, r v fr k = true → k (fr.set v (posOf t)) = true
theorem dstK_t {n : Nat} {d : Option Tmp} {k : Option S → Bool} (h : dstK n d k = true) : ∃ s, DstOk n d s ∧ k s = true := by
  cases d with
  | none => exact ⟨none, .inl ⟨rfl, rfl⟩, h⟩
  | some t =>
    obtain ⟨h1, h2⟩ := bi_f (b := Nat.blt t n) h
    rw [posK_eq, sPosK_eq] at h2
    exact ⟨_, .inr ⟨t, _, rfl, blt_t h1, rfl, fun v fr k h => by rwa [sPos_eq] at h⟩, h2⟩
theorem wanted_none {ops : Array Oper} {o : Oper} {a : Act} (h : o.guard = none) : Region.wanted o (yielded ops a.tmps) = true := by simp [Region.wanted, h]
theorem onGd_t {w : Bool} {v : V} {yes no : Bool} (h : onGd w v yes no = true) {σ : Sg} {x : Value} (hr : Rel σ v x) : (x = .bool w ∧ yes = true) ∨ ((∀ u, x = .bool u → u ≠ w) ∧ no = true) := by
  obtain ⟨g, a, b, d, p, l, r, rfl, h1⟩ := onC_t h
  rcases bi_t h1 with ⟨hg, h2⟩ | ⟨hg, h2⟩
  · have hg := beq_t hg
    subst hg
    obtain ⟨y, rfl, hy⟩ := hr.c0
    rcases bi_t h2 with ⟨h3, h4⟩ | ⟨h3, h4⟩
    · have h3 := beq_t h3
      subst hy
      refine .inl ⟨?_, h4⟩
      cases y <;> cases w <;> first | rfl | cases h3
    · have h3 := beq_f h3
      subst hy
      refine .inr ⟨fun u hu => ?_, h4⟩
      injection hu with hu
      subst hu
      intro hw
      subst hw
      cases y <;> exact h3 rfl
  · obtain ⟨h3, h4⟩ := bi_f h2
    have h3 := beq_t h3
    subst h3
    obtain ⟨vl, rfl, _⟩ := hr.c14
    rcases onL_t h4 with ⟨_, h5⟩ | ⟨_, _, _, _, _, _, _, _, h5⟩
    · exact .inr ⟨fun u hu => (by cases hu), h5⟩
    · cases h5
theorem wanted_some {n : Nat} {ops : Array Oper} {o : Oper} {a : Act} {j dj : Nat} {w : Bool} (hg : o.guard = some (j, w)) (hd : (ops[j]?).bind (·.dst) = some dj) (hn : dj < n) (hs : a.tmps.size = n) :
    (a.tmps.getD dj undef = .bool w → Region.wanted o (yielded ops a.tmps) = true) ∧ ((∀ u, a.tmps.getD dj undef = .bool u → u ≠ w) → Region.wanted o (yielded ops a.tmps) = false) := by
  have hlt : dj < a.tmps.size := by omega
  have hg2 : a.tmps.getD dj undef = a.tmps[dj] := by simp [hlt]
  have hy : yielded ops a.tmps j = match a.tmps.getD dj undef with | .bool b => some b | _ => none := by
    rw [hg2]
    unfold yielded
    rw [hd]
    simp only [Option.bind_some, Array.getElem?_eq_getElem hlt]
    cases a.tmps[dj] <;> rfl
  constructor
  · intro h
    simp [Region.wanted, hg, hy, h]
  · intro h
    simp only [Region.wanted, hg, hy]
    cases hv : a.tmps.getD dj undef <;> simp
    rename_i u
    exact h u hv
end Go.Rc
