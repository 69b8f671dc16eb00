/- RcE: steps of the heap. -/
import Derived.Test.YtomgkmoecbnddaaRcD
set_option linter.unusedVariables false
set_option linter.unusedSimpArgs false
set_option linter.unnecessarySimpa false
namespace Go.Rc
open Go Go.Sym

def L.has : L → Pos → Prop
  | .nil, _ => False
  | .cons q l, p => q = p ∨ l.has p
def L.app : L → L → L
  | .nil, m => m
  | .cons p l, m => .cons p (l.app m)
theorem L.has_app (l m : L) (p : Pos) : (l.app m).has p ↔ l.has p ∨ m.has p := by
  induction l with
  | nil => simp [L.app, L.has]
  | cons q l ih => simp [L.app, L.has, ih, or_assoc]
theorem L.app_assoc (a b c : L) : (a.app b).app c = a.app (b.app c) := by
  induction a with
  | nil => rfl
  | cons q l ih => simp [L.app, ih]
theorem L.app_nil (a : L) : a.app .nil = a := by
  induction a with
  | nil => rfl
  | cons q l ih => simp [L.app, ih]
theorem appL_eq (l : L) : ∀ (m : L) (k : L → Bool), appL l m k = k (l.app m) := by
  induction l with
  | nil => intro m k; rfl
  | cons p l ih => intro m k; exact ih m _
theorem inL_t {l : L} {p : Pos} {t f : Bool} (h : inL l p t f = true) : (l.has p ∧ t = true) ∨ (¬ l.has p ∧ f = true) := by
  induction l with
  | nil => exact .inr ⟨fun h => h, h⟩
  | cons q l ih =>
    rcases bi_t (x := t) (y := inL l p t f) h with ⟨h1, h2⟩ | ⟨h1, h2⟩
    · exact .inl ⟨.inl ((Pos.eq_iff _ _).1 h1), h2⟩
    · rcases ih h2 with ⟨h3, h4⟩ | ⟨h3, h4⟩
      · exact .inl ⟨.inr h3, h4⟩
      · exact .inr ⟨fun e => e.elim (Pos.eq_f h1) h3, h4⟩

structure Step (P : Program) (E : Env) (R : List Blk) (σ : Sg) (h : Hp) (w : World) (σ' : Sg) (h' : Hp) (w' : World) : Prop where
  ext : Ext σ σ'
  hr : HR P E R σ' h' w'
  log : ∃ new : L, h'.lg = new.app h.lg ∧ ∀ p b c, Live h p → σ p = some (b, c) → ¬ new.has p → Live h' p ∧ w'.heap[b]? = w.heap[b]?
section
variable {P : Program} {E : Env} {R : List Blk} {σ σ' σ'' : Sg} {h h' h'' : Hp} {w w' w'' : World}
theorem Step.refl (H : HR P E R σ h w) : Step P E R σ h w σ h w := ⟨Ext.refl _, H, .nil, rfl, fun _ _ _ hl _ _ => ⟨hl, rfl⟩⟩
theorem Step.trans (a : Step P E R σ h w σ' h' w') (b : Step P E R σ' h' w' σ'' h'' w'') : Step P E R σ h w σ'' h'' w'' := by
  obtain ⟨n1, e1, k1⟩ := a.log
  obtain ⟨n2, e2, k2⟩ := b.log
  refine ⟨a.ext.trans b.ext, b.hr, n2.app n1, by rw [e2, e1, L.app_assoc], fun p bb c hl hs hn => ?_⟩
  rw [L.has_app] at hn
  obtain ⟨h1, h2⟩ := k1 p bb c hl hs (fun e => hn (.inr e))
  obtain ⟨h3, h4⟩ := k2 p bb c h1 (a.ext _ _ hs) (fun e => hn (.inl e))
  exact ⟨h3, h4.trans h2⟩
theorem HR.world (H : HR P E R σ h w) (h1 : w'.heap = w.heap) (h2 : (w'.os, w'.output) = (w.os, w.output)) : HR P E R σ h w' :=
  ⟨h2.trans H.env, by rw [h1]; exact H.live, H.inj, by rw [h1]; exact H.frame, H.fresh⟩
theorem Step.world (H : HR P E R σ h w) (h1 : w'.heap = w.heap) (h2 : (w'.os, w'.output) = (w.os, w.output)) : Step P E R σ h w σ h w' :=
  ⟨Ext.refl _, H.world h1 h2, .nil, rfl, fun _ _ _ hl _ _ => ⟨hl, by rw [h1]⟩⟩
/-- the heap only grows -/
def Grew (w w' : World) : Prop := (w'.os, w'.output) = (w.os, w.output) ∧ ∀ (i : Nat) (o : Obj), w.heap[i]? = some o → w'.heap[i]? = some o
theorem Grew.of_same (h1 : w'.heap = w.heap) (h2 : (w'.os, w'.output) = (w.os, w.output)) : Grew w w' := ⟨h2, fun _ _ h => by rw [h1]; exact h⟩
theorem HR.grew (H : HR P E R σ h w) (g : Grew w w') : HR P E R σ h w' := by
  refine ⟨g.1.trans H.env, fun p hl => ?_, H.inj, fun x hx => ⟨g.2 _ _ (H.frame x hx).1, (H.frame x hx).2⟩, H.fresh⟩
  obtain ⟨b, c, ob, h1, h2, h3⟩ := H.live p hl
  exact ⟨b, c, ob, h1, g.2 _ _ h2, h3⟩
theorem Step.grew (H : HR P E R σ h w) (g : Grew w w') : Step P E R σ h w σ h w' :=
  ⟨Ext.refl _, H.grew g, .nil, rfl, fun p b c hl hs _ => ⟨hl, by
    obtain ⟨b', c', ob, h1, h2, _⟩ := H.live p hl
    rw [hs] at h1
    injection h1 with h1
    injection h1 with h1 _
    subst h1
    rw [h2]; exact g.2 _ _ h2⟩⟩
theorem HR.pin (H : HR P E R σ h w) (ob : Obj) : HR P E ((w.heap.size, ob) :: R) σ h (w.alloc ob) := by
  have hb : (w.alloc ob).heap[w.heap.size]? = some ob := by
    show (w.heap.push ob)[w.heap.size]? = some ob
    simp
  have ho : ∀ (j : Nat) (o : Obj), w.heap[j]? = some o → (w.alloc ob).heap[j]? = some o := fun j o h => by
    show (w.heap.push ob)[j]? = some o
    rw [Array.getElem?_push, if_neg (Nat.ne_of_lt (Array.getElem?_eq_some_iff.1 h).1)]
    exact h
  refine ⟨H.env, fun p hl => ?_, H.inj, fun x hx => ?_, H.fresh⟩
  · obtain ⟨b, c, o, h1, h2, h3⟩ := H.live p hl
    exact ⟨b, c, o, h1, ho _ _ h2, h3⟩
  · rcases List.mem_cons.1 hx with rfl | hx
    · refine ⟨hb, fun p c hl e => ?_⟩
      obtain ⟨b, c', o, h1, h2, h3⟩ := H.live p hl
      rw [e] at h1
      injection h1 with h1
      injection h1 with h1 _
      subst h1
      exact Nat.lt_irrefl _ (Array.getElem?_eq_some_iff.1 h2).1
    · exact ⟨ho _ _ (H.frame x hx).1, (H.frame x hx).2⟩
theorem HR.unpin {x : Blk} (H : HR P E (x :: R) σ h w) : HR P E R σ h w := ⟨H.env, H.live, H.inj, fun x hx => H.frame x (List.mem_cons_of_mem _ hx), H.fresh⟩
theorem Step.unpin {x : Blk} (s : Step P E (x :: R) σ h w σ' h' w') : Step P E R σ h w σ' h' w' := ⟨s.ext, s.hr.unpin, s.log⟩
theorem Grew.alloc (w : World) (ob : Obj) : Grew w (w.alloc ob) := by
  refine ⟨rfl, fun i o h => ?_⟩
  show (w.heap.push ob)[i]? = some o
  rw [Array.getElem?_push, if_neg (Nat.ne_of_lt (Array.getElem?_eq_some_iff.1 h).1)]
  exact h
noncomputable def upS (σ : Sg) (p : Pos) (x : Nat × Gh) : Sg := fun q => if q = p then some x else σ q
theorem HR.nx (H : HR P E R σ h w) : σ h.nx = none := by
  cases e : σ h.nx with
  | none => rfl
  | some x => have := H.fresh _ _ e; omega
theorem HR.ext (H : HR P E R σ h w) (x : Nat × Gh) : Ext σ (upS σ h.nx x) := fun p y e => by
  unfold upS
  by_cases hp : p = h.nx
  · subst hp; rw [H.nx] at e; cases e
  · rw [if_neg hp]; exact e
theorem upS_self (σ : Sg) (p : Pos) (x : Nat × Gh) : upS σ p x p = some x := if_pos rfl
/-- the next name, given to the block b, which no name has, with what stands there now -/
theorem Step.adopt (H : HR P E R σ h w) {b : Nat} {c : Gh} {ao : AO} {ob : Obj} (hb : w'.heap[b]? = some ob) (hk : ∀ j, j ≠ b → w'.heap[j]? = w.heap[j]?) (he : (w'.os, w'.output) = (w.os, w.output))
    (hu : ∀ p c', Live h p → σ p ≠ some (b, c')) (hR : ∀ x ∈ R, x.1 ≠ b) (ho : OOk P (upS σ h.nx (b, c)) c ao ob) : Step P E R σ h w (upS σ h.nx (b, c)) (h.new ao) w' := by
  have hext := H.ext (b, c)
  have hat : ∀ p, (h.new ao).t.at p = if h.nx = p then ao else h.t.at p := fun p => HT.at_set _ _ _ _
  have hlive : ∀ p, p ≠ h.nx → (Live (h.new ao) p ↔ Live h p) := fun p hp => by
    unfold Live; rw [hat, if_neg (Ne.symm hp)]
  have hother : ∀ p b' c', p ≠ h.nx → upS σ h.nx (b, c) p = some (b', c') → σ p = some (b', c') := fun p b' c' hp e => by
    unfold upS at e; rwa [if_neg hp] at e
  have hfr : ∀ p x, σ p = some x → p ≠ h.nx := fun p x e he => by subst he; rw [H.nx] at e; cases e
  refine ⟨hext, ⟨he.trans H.env, ?_, ?_, ?_, ?_⟩, .nil, rfl, fun p bb cc hl hs _ => ?_⟩
  · intro p hl
    by_cases hp : p = h.nx
    · subst hp
      exact ⟨b, c, ob, upS_self _ _ _, hb, by rw [hat, if_pos rfl]; exact ho⟩
    · have hl' := (hlive p hp).1 hl
      obtain ⟨b', c', ob', h1, h2, h3⟩ := H.live p hl'
      refine ⟨b', c', ob', hext _ _ h1, ?_, ?_⟩
      · rw [hk b' (fun e => hu p c' hl' (by rw [h1, e]))]; exact h2
      · rw [hat, if_neg (Ne.symm hp)]; exact h3.mono hext
  · intro p q b' c' c'' hp hq h1 h2
    by_cases hpn : p = h.nx
    · by_cases hqn : q = h.nx
      · rw [hpn, hqn]
      · rw [hpn, upS_self] at h1
        injection h1 with h1; injection h1 with h1 _
        subst h1
        exact absurd (hother q _ _ hqn h2) (hu q _ ((hlive q hqn).1 hq))
    · by_cases hqn : q = h.nx
      · rw [hqn, upS_self] at h2
        injection h2 with h2; injection h2 with h2 _
        subst h2
        exact absurd (hother p _ _ hpn h1) (hu p _ ((hlive p hpn).1 hp))
      · exact H.inj p q b' c' c'' ((hlive p hpn).1 hp) ((hlive q hqn).1 hq) (hother _ _ _ hpn h1) (hother _ _ _ hqn h2)
  · intro x hx
    refine ⟨by rw [hk _ (hR x hx)]; exact (H.frame x hx).1, fun p c' hl e => ?_⟩
    by_cases hp : p = h.nx
    · rw [hp, upS_self] at e
      injection e with e; injection e with e _
      exact hR x hx e.symm
    · exact (H.frame x hx).2 p c' ((hlive p hp).1 hl) (hother _ _ _ hp e)
  · intro p x e
    show p.num < h.nx.succ.num
    rw [Pos.num_succ]
    by_cases hp : p = h.nx
    · rw [hp]; omega
    · have : σ p = some x := by unfold upS at e; rwa [if_neg hp] at e
      have := H.fresh p x this; omega
  · refine ⟨(hlive p (hfr p _ hs)).2 hl, hk bb fun e => hu p cc hl (by rw [hs, e])⟩
/-- a name without a block -/
theorem Step.name (H : HR P E R σ h w) (x : Nat × Gh) : Step P E R σ h w (upS σ h.nx x) ⟨h.t, h.nx.succ, h.lg⟩ w := by
  have hext := H.ext x
  have hne : ∀ p y, σ p = some y → p ≠ h.nx := fun p y e he => by subst he; rw [H.nx] at e; cases e
  have hlv : ∀ p b c, Live h p → upS σ h.nx x p = some (b, c) → σ p = some (b, c) := fun p b c hl e => by
    obtain ⟨b', c', ob, h1, _, _⟩ := H.live p hl
    have hp := hne p _ h1
    unfold upS at e
    rwa [if_neg hp] at e
  refine ⟨hext, ⟨H.env, fun p hl => ?_, fun p q b c c' h1 h2 h3 h4 => H.inj p q b c c' h1 h2 (hlv _ _ _ h1 h3) (hlv _ _ _ h2 h4), fun y hy => ⟨(H.frame y hy).1, fun p c hl e => (H.frame y hy).2 p c hl (hlv _ _ _ hl e)⟩, fun p y e => ?_⟩, .nil, rfl, fun p b c hl _ _ => ⟨hl, rfl⟩⟩
  · obtain ⟨b, c, ob, h1, h2, h3⟩ := H.live p hl
    exact ⟨b, c, ob, hext _ _ h1, h2, h3.mono hext⟩
  · show p.num < h.nx.succ.num
    rw [Pos.num_succ]
    by_cases hp : p = h.nx
    · rw [hp]; omega
    · have : σ p = some y := by unfold upS at e; rwa [if_neg hp] at e
      have := H.fresh p y this
      omega
theorem HR.lt (H : HR P E R σ h w) {p : Pos} (hl : Live h p) {b : Nat} {c : Gh} (hs : σ p = some (b, c)) : b < w.heap.size := by
  obtain ⟨b', c', ob, h1, h2, _⟩ := H.live p hl
  rw [h1] at hs; injection hs with hs; injection hs with hs _
  subst hs
  exact (Array.getElem?_eq_some_iff.1 h2).1
theorem HR.frame_lt (H : HR P E R σ h w) {x : Blk} (hx : x ∈ R) : x.1 < w.heap.size := (Array.getElem?_eq_some_iff.1 (H.frame x hx).1).1
theorem alloc_other (w : World) (o : Obj) (j : Nat) (hj : j ≠ w.heap.size) : (w.alloc o).heap[j]? = w.heap[j]? := by
  show (w.heap.push o)[j]? = _
  rw [Array.getElem?_push, if_neg hj]
theorem Step.alloc (H : HR P E R σ h w) {c : Gh} {ao : AO} {ob : Obj} (ho : OOk P (upS σ h.nx (w.heap.size, c)) c ao ob) : Step P E R σ h w (upS σ h.nx (w.heap.size, c)) (h.new ao) (w.alloc ob) :=
  .adopt H (by show (w.heap.push ob)[w.heap.size]? = _; simp) (alloc_other w ob) rfl
    (fun p c' hl e => by have := H.lt hl e; omega) (fun x hx => by have := H.frame_lt hx; omega) ho
/-- a named block turned, or its name dropped -/
theorem Step.put (H : HR P E R σ h w) {p : Pos} {b : Nat} {c : Gh} {ao : AO} {ob : Obj} (hl : Live h p) (hs : σ p = some (b, c)) (hb : w'.heap[b]? = some ob) (hk : ∀ j, j ≠ b → w'.heap[j]? = w.heap[j]?) (he : (w'.os, w'.output) = (w.os, w.output))
    (ho : ao = .z ∨ OOk P σ c ao ob) : Step P E R σ h w σ (h.put p ao) w' := by
  have hat : ∀ q, (h.put p ao).t.at q = if p = q then ao else h.t.at q := fun q => HT.at_set _ _ _ _
  have hlive : ∀ q, Live (h.put p ao) q → Live h q := fun q hq => by
    by_cases hp : p = q
    · subst hp; exact hl
    · unfold Live at hq ⊢; rwa [hat, if_neg hp] at hq
  refine ⟨Ext.refl _, ⟨he.trans H.env, ?_, ?_, ?_, ?_⟩, .cons p .nil, rfl, fun q bb cc hq hs' hn => ?_⟩
  · intro q hq
    by_cases hp : p = q
    · subst hp
      refine ⟨b, c, ob, hs, hb, ?_⟩
      rw [hat, if_pos rfl]
      rcases ho with rfl | ho
      · unfold Live at hq; rw [hat, if_pos rfl] at hq; exact absurd rfl hq
      · exact ho
    · obtain ⟨b', c', ob', h1, h2, h3⟩ := H.live q (hlive q hq)
      refine ⟨b', c', ob', h1, ?_, by rw [hat, if_neg hp]; exact h3⟩
      rw [hk b' (fun e => hp (H.inj p q b c c' hl (hlive q hq) hs (by rw [h1, e])))]; exact h2
  · intro q q' b' c' c'' h1 h2 h3 h4
    exact H.inj q q' b' c' c'' (hlive _ h1) (hlive _ h2) h3 h4
  · intro x hx
    refine ⟨?_, fun q c' hq => (H.frame x hx).2 q c' (hlive q hq)⟩
    rw [hk _ (fun e => (H.frame x hx).2 p c hl (by rw [hs, ← e]))]
    exact (H.frame x hx).1
  · exact H.fresh
  · have hp : p ≠ q := fun e => hn (.inl e)
    refine ⟨?_, hk bb fun e => hp (H.inj p q b c cc hl hq hs (by rw [hs', e]))⟩
    unfold Live; rw [hat, if_neg hp]; exact hq
/-- a name dropped -/
theorem Step.drop (H : HR P E R σ h w) {p : Pos} (hl : Live h p) : Step P E R σ h w σ (h.put p .z) w := by
  obtain ⟨b, c, ob, h1, h2, h3⟩ := H.live p hl
  exact .put H hl h1 h2 (fun _ _ => rfl) rfl (.inl rfl)
theorem not_live_put_z (h : Hp) (p : Pos) : ¬ Live (h.put p .z) p := fun e => e (by show HT.at p (HT.set .z p h.t) = .z; rw [HT.at_set, if_pos rfl])
theorem live_put_z {h : Hp} {p q : Pos} (hq : Live (h.put p .z) q) : Live h q ∧ p ≠ q := by
  have hp : p ≠ q := fun e => by subst e; exact not_live_put_z h p hq
  refine ⟨?_, hp⟩
  have : (h.put p .z).t.at q = if p = q then .z else h.t.at q := HT.at_set _ _ _ _
  unfold Live at hq ⊢
  rwa [this, if_neg hp] at hq
/-- cells of a named block -/
theorem HR.cells (H : HR P E R σ h w) {p : Pos} {t e : Nat} {q : Pos} {l : V} (ht : t = 1 ∨ t = 2) (ha : h.t.at p = .o t e q l) : ∃ b c vl junk, Live h p ∧ σ p = some (b, c) ∧ w.heap[b]? = some (.cells (vl ++ junk).toArray e (0, 0)) ∧ RelL σ l vl ∧
    (t = 1 → junk = []) ∧ (t = 2 → ∃ n ag s, c = .c n ∧ tyOf P e = some (ag, s) ∧ (vl ++ junk).length = n * s) := by
  have hl : Live h p := by unfold Live; rw [ha]; simp
  obtain ⟨b, c, ob, h1, h2, h3⟩ := H.live p hl
  rw [ha] at h3
  rcases ht with rfl | rfl
  · cases h3 with
    | cells hr => exact ⟨b, c, _, [], hl, h1, by simpa using h2, hr, fun _ => rfl, fun e => by cases e⟩
  · cases h3 with
    | opn hr hT hL => exact ⟨b, _, _, _, hl, h1, h2, hr, fun e => by (cases e), fun _ => ⟨_, _, _, rfl, hT, hL⟩⟩
end
end Go.Rc
