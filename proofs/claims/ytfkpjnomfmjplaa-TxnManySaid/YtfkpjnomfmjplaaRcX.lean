/- RcX: the compiler of regions that draw. -/
import Derived.Test.YtfkpjnomfmjplaaRcW
set_option linter.unusedVariables false
set_option linter.unusedSimpArgs false
set_option linter.unnecessarySimpa false
namespace Go.Rc
open Go Go.Sym
section
variable {P : Program} {n : Nat} {ops : Array Oper}
theorem natsK_eq : ∀ (l : List Nat) (k : List Nat → Bool), natsK l k = k l
  | [], k => rfl
  | i :: l, k => by
    show (fN i fun i' => natsK l fun r => k (i' :: r)) = _
    rw [fN_eq, natsK_eq l]
theorem loudK_t {bf : Array Nat} {tk : List Nat} {j : Nat} {k : (DrF → DrF) → Bool} (h : loudK P n ops bf tk j k = true) : ∃ o f s gd, ops[j]? = some o ∧ DstOk n o.dst s ∧ GdOk n ops o gd ∧ (∀ c, o.op ≠ .defer c) ∧ WOk P n o.op f ∧ k (dOne (notBefore bf tk j) (rMk f s gd rNil)) = true := by
  unfold loudK at h
  split at h
  · cases h
  · rename_i o ho
    have hnd := copK_nd h
    obtain ⟨f, kd, h1, hs⟩ := copK_t h
    obtain ⟨s, hd, h2⟩ := dstK_t h1
    obtain ⟨gd, hg, h3⟩ := gdK_t h2
    rw [natsK_eq] at h3
    refine ⟨o, f, s, gd, ho, hd, hg, hnd, hs.w', ?_⟩
    cases gd with
    | none => cases s <;> exact h3
    | some gw => obtain ⟨g, w⟩ := gw; cases s <;> exact h3
/-- quiet operations -/
structure Qc (P : Program) (n : Nat) (ops : Array Oper) (listed : Array Bool) (i : Nat) (o : Oper) (t : Nat) (s : S) : Prop where
  ho : ops[i]? = some o
  hdst : o.dst = some t
  ht : t < n
  hs : ∀ v fr k, s v fr k = true → k (fr.set v (posOf t)) = true
  hnd : ∀ c, o.op ≠ .defer c
  hsel : ∀ (j : Nat) (o : Oper) cs b, ops[j]? = some o → o.op ≠ .select cs b
  hc : closed ops listed
  hfree : Region.free .any ops listed i = true
  hi : i ∈ Region.ready .any ops listed
variable {fu : Nat} {listed : Array Bool} {tk tk' : List Nat} {i : Nat} {o : Oper} {f : OpF} {t : Nat} {s : S} {r : DrF} {g rd : G} {wn : Bool} {val : T → V}
/-- what a read leaves behind it -/
theorem read_spec (q : QOk P n o.op f (valRn val)) {cf : Cf} {rb : RB} {fr : T} {h : Hp} {k : K1} {E : Env} {R : List Blk} {σ : Sg} {a : Act} {w : World} (e : f cf rb fr h k = true) (hfr : FrOk σ n fr a) (H : HR P E R σ h w)
    {tg na nb nd : Nat} {p : Pos} {l r : V} (hval : val fr = .c tg na nb nd p l r) : ∃ (v : V) (x : Value) (Sn : Sl), k v h = true ∧ Rel σ v x ∧ holds Sn w ∧ (∀ s ∈ Sn, s.1 = i ∧ Live h p ∧ ∃ c, σ p = some (s.2.1, c)) ∧ ∀ w', holds Sn w' → (execOp a.eval o).run P w' = .ok (.value x) w' := by
  obtain ⟨v, x, h1, h2, h3⟩ := q.ok cf rb fr h k E R σ a w e hfr H
  by_cases hl : Live h p
  · obtain ⟨b, c, ob, h4, h5, _⟩ := H.live p hl
    refine ⟨v, x, [(i, b, w.heap[b]?)], h1, h2, fun s hs => by simp at hs; subst hs; rfl, fun s hs => by simp at hs; subst hs; exact ⟨rfl, hl, c, h4⟩, fun w' hw => h3 w' o rfl fun p' b' c' hr hl' hs' => ?_⟩
    obtain ⟨_, _, _, _, _, _, hv⟩ := hr
    rw [hval] at hv
    injection hv with _ _ _ _ hp
    subst hp
    rw [h4] at hs'
    injection hs' with hs'
    injection hs' with hs' _
    subst hs'
    exact hw (i, b, w.heap[b]?) (List.mem_singleton.2 rfl)
  · refine ⟨v, x, [], h1, h2, fun s hs => by simp at hs, fun s hs => by simp at hs, fun w' _ => h3 w' o rfl fun p' b' c' hr hl' hs' => ?_⟩
    obtain ⟨_, _, _, _, _, _, hv⟩ := hr
    rw [hval] at hv
    injection hv with _ _ _ _ hp
    subst hp
    exact absurd hl' hl
theorem take_ok (c : Qc P n ops listed i o t s) (q : QOk P n o.op f noRn) (hg : o.guard = none) (hr : DrOk P n ops fu (listed.setIfInBounds i true) tk' r) (hsub : ∀ j ∈ tk, j ∈ tk') : DrOk P n ops (fu + 1) listed tk (dTake f s r) := ⟨fun cf rb fr h x rds kf E R σ a w Ss hcf hrb e hfr H hrd htk => by
  obtain ⟨v, x1, h1, h2, h3⟩ := q.ok cf rb fr h _ E R σ a w e hfr H
  exact dTake_ok c.ho c.hdst c.ht c.hnd c.hsel c.hc c.hfree c.hi hr hsub (Sn := []) (rds' := rds) hcf hrb h2 ⟨c.hnd, .inl ⟨wanted_none hg, fun w' _ => h3 w' o rfl fun _ _ _ h => h.elim⟩⟩ (fun s hs => by simp at hs) (fun s hs => by simp at hs) (fun _ _ h => h) (c.hs _ _ _ h1) hfr H hrd htk⟩
theorem takeG_ok (c : Qc P n ops listed i o t s) (q : QOk P n o.op f noRn) {j dj : Nat} (hg1 : o.guard = some (j, wn)) (hg2 : (ops[j]?).bind (·.dst) = some dj) (hg3 : dj < n) (hg4 : ∀ fr k, g fr k = true → k (fr.at (posOf dj)) = true) (hr : DrOk P n ops fu (listed.setIfInBounds i true) tk' r) (hsub : ∀ j ∈ tk, j ∈ tk') : DrOk P n ops (fu + 1) listed tk (dTakeG g wn f s r) := ⟨fun cf rb fr h x rds kf E R σ a w Ss hcf hrb e hfr H hrd htk => by
  obtain ⟨w1, w2⟩ := wanted_some (o := o) (w := wn) hg1 hg2 hg3 hfr.size
  rcases onGd_t (hg4 _ _ e) (hfr.get dj) with ⟨e1, e2⟩ | ⟨e1, e2⟩
  · obtain ⟨v, x1, h1, h2, h3⟩ := q.ok cf rb fr h _ E R σ a w e2 hfr H
    exact dTake_ok c.ho c.hdst c.ht c.hnd c.hsel c.hc c.hfree c.hi hr hsub (Sn := []) (rds' := rds) hcf hrb h2 ⟨c.hnd, .inl ⟨w1 e1, fun w' _ => h3 w' o rfl fun _ _ _ h => h.elim⟩⟩ (fun s hs => by simp at hs) (fun s hs => by simp at hs) (fun _ _ h => h) (c.hs _ _ _ h1) hfr H hrd htk
  · exact dTake_ok c.ho c.hdst c.ht c.hnd c.hsel c.hc c.hfree c.hi hr hsub (Sn := []) (rds' := rds) hcf hrb (.undef σ) ⟨c.hnd, .inr ⟨w2 e1, rfl⟩⟩ (fun s hs => by simp at hs) (fun s hs => by simp at hs) (fun _ _ h => h) (c.hs _ _ _ e2) hfr H hrd htk⟩
theorem read_ok (c : Qc P n ops listed i o t s) (hrdv : ∀ fr k, rd fr k = true → k (val fr) = true) (q : QOk P n o.op f (valRn val)) (hg : o.guard = none) (hr : DrOk P n ops fu (listed.setIfInBounds i true) tk' r) (hsub : ∀ j ∈ tk, j ∈ tk') (hi : i ∈ tk') : DrOk P n ops (fu + 1) listed tk (dRead i rd f s r) := ⟨fun cf rb fr h x rds kf E R σ a w Ss hcf hrb e hfr H hrd htk => by
  have e1 := hrdv _ _ e
  obtain ⟨_, _, _, _, p, _, _, hv, e2⟩ := onC_t e1
  obtain ⟨v, x1, Sn, h1, h2, h3, h4, h5⟩ := read_spec (i := i) q e2 hfr H hv
  exact dTake_ok c.ho c.hdst c.ht c.hnd c.hsel c.hc c.hfree c.hi hr hsub (Sn := Sn) (rds' := .cons i p rds) hcf hrb h2 ⟨c.hnd, .inl ⟨wanted_none hg, h5⟩⟩ h3 (fun s hs => by
    obtain ⟨q1, q2, c', q3⟩ := h4 s hs
    exact ⟨q1, hi, p, c', .inl ⟨rfl, rfl⟩, q2, q3⟩) (fun _ _ h => .inr h) (c.hs _ _ _ h1) hfr H hrd htk⟩
theorem readG_ok (c : Qc P n ops listed i o t s) (hrdv : ∀ fr k, rd fr k = true → k (val fr) = true) (q : QOk P n o.op f (valRn val)) {j dj : Nat} (hg1 : o.guard = some (j, wn)) (hg2 : (ops[j]?).bind (·.dst) = some dj) (hg3 : dj < n) (hg4 : ∀ fr k, g fr k = true → k (fr.at (posOf dj)) = true) (hr : DrOk P n ops fu (listed.setIfInBounds i true) tk' r) (hsub : ∀ j ∈ tk, j ∈ tk') (hi : i ∈ tk') : DrOk P n ops (fu + 1) listed tk (dReadG i rd g wn f s r) := ⟨fun cf rb fr h x rds kf E R σ a w Ss hcf hrb e hfr H hrd htk => by
  obtain ⟨w1, w2⟩ := wanted_some (o := o) (w := wn) hg1 hg2 hg3 hfr.size
  rcases onGd_t (hg4 _ _ e) (hfr.get dj) with ⟨e1, e2⟩ | ⟨e1, e2⟩
  · have e3 := hrdv _ _ e2
    obtain ⟨_, _, _, _, p, _, _, hv, e4⟩ := onC_t e3
    obtain ⟨v, x1, Sn, h1, h2, h3, h4, h5⟩ := read_spec (i := i) q e4 hfr H hv
    exact dTake_ok c.ho c.hdst c.ht c.hnd c.hsel c.hc c.hfree c.hi hr hsub (Sn := Sn) (rds' := .cons i p rds) hcf hrb h2 ⟨c.hnd, .inl ⟨w1 e1, h5⟩⟩ h3 (fun s hs => by
      obtain ⟨q1, q2, c', q3⟩ := h4 s hs
      exact ⟨q1, hi, p, c', .inl ⟨rfl, rfl⟩, q2, q3⟩) (fun _ _ h => .inr h) (c.hs _ _ _ h1) hfr H hrd htk
  · exact dTake_ok c.ho c.hdst c.ht c.hnd c.hsel c.hc c.hfree c.hi hr hsub (Sn := []) (rds' := rds) hcf hrb (.undef σ) ⟨c.hnd, .inr ⟨w2 e1, rfl⟩⟩ (fun s hs => by simp at hs) (fun s hs => by simp at hs) (fun _ _ h => h) (c.hs _ _ _ e2) hfr H hrd htk⟩
theorem parC_t {listed : Array Bool} {i j : Nat} (h : parC ops listed i j = true) : ∃ oi oj, ops[i]? = some oi ∧ ops[j]? = some oj ∧ allocOp oi.op = true ∧ oi.guard = none ∧ oi.apart ops oj = true ∧ i ≠ j ∧ Region.ready .any ops (listed.setIfInBounds i true) = [j] ∧ Region.ready .any ops (listed.setIfInBounds j true) = [i] := by
  unfold parC at h
  split at h
  · rename_i oi oj hi hj
    simp only [Bool.and_eq_true] at h
    obtain ⟨⟨⟨⟨h1, h2⟩, h3⟩, h4⟩, h5⟩ := h
    split at h5
    · rename_i a b ha hb
      simp only [Bool.and_eq_true] at h5
      have q1 := beq_t h5.1
      have q2 := beq_t h5.2
      subst q1 q2
      refine ⟨oi, oj, hi, hj, h1, by simpa using h2, h3, fun e => ?_, ha, hb⟩
      subst e
      simp at h4
    · cases h5
  · cases h
theorem parK_t {tk : List Nat} {i j : Nat} {k : (DrF → DrF) → Bool} (hp : parC ops listed i j = true) (hsel : ∀ (j : Nat) (o : Oper) cs b, ops[j]? = some o → o.op ≠ .select cs b) (hne : Region.ready .any ops listed ≠ []) (hmem : ∀ k ∈ Region.ready .any ops listed, k = i ∨ k = j) (h : parK P n ops (Region.before ops) tk i j k = true) :
    ∃ b : DrF → DrF, k b = true ∧ ∀ r fu, DrOk P n ops fu ((listed.setIfInBounds i true).setIfInBounds j true) tk r → DrOk P n ops (fu + 2) listed tk (b r) := by
  obtain ⟨oi, oj, hi, hj, ha, hg, hap, hij, hri, hrj⟩ := parC_t hp
  unfold parK at h
  rw [hi] at h
  have hnd := copK_nd h
  obtain ⟨f, kd, h1, hw, hA⟩ := copA_t ha h
  obtain ⟨s, hd, h2⟩ := dstK_t h1
  rcases hd with ⟨_, rfl⟩ | ⟨t, s, hdst, ht, rfl, hput⟩
  · cases h2
  · have h2 : (natsK (notBefore (Region.before ops) tk i) fun na => loudK P n ops (Region.before ops) tk j fun b => k fun r => dPar f (b (dOne na (rSet f s rNil) r))) = true := h2
    rw [natsK_eq] at h2
    obtain ⟨o2, f2, s2, gd2, ho2, hd2, hg2, hnd2, hw2, h3⟩ := loudK_t h2
    rw [hj] at ho2
    injection ho2 with ho2
    subst ho2
    exact ⟨_, h3, fun r fu hr => par_ok hi hj hg hdst ht hput hap hnd hnd2 hsel hd2 hg2 hw hA hw2 hne hmem hri hrj hij hr⟩
theorem schK_t (hsel : ∀ (j : Nat) (o : Oper) cs b, ops[j]? = some o → o.op ≠ .select cs b) : ∀ (fu : Nat) {listed : Array Bool} {tk : List Nat} {k : DrF → Bool}, closed ops listed → schK P n ops (Region.before ops) (fu + 1) listed tk k = true → ∃ r, DrOk P n ops fu listed tk r ∧ k r = true := by
  intro fu
  induction fu using Nat.strongRecOn with
  | ind fu ih0 =>
  cases fu with
  | zero =>
    intro listed tk k hc h
    unfold schK at h
    split at h
    · rename_i hr
      exact ⟨_, dDone_ok hr, h⟩
    · split at h
      · split at h
        · obtain ⟨f, kd, h1, _⟩ := copK_t h
          obtain ⟨s, _, h2⟩ := dstK_t h1
          obtain ⟨gd, _, h3⟩ := gdK_t h2
          cases h3
        · cases h
      · split at h
        · obtain ⟨_, _, _, _, _, _, _, _, _, h1⟩ := loudK_t h
          cases h1
        · split at h
          · cases h
          · split at h
            · cases h
            · obtain ⟨_, _, _, _, _, _, _, _, _, h1⟩ := loudK_t h
              obtain ⟨_, _, _, _, _, _, _, _, _, h2⟩ := loudK_t h1
              cases h2
        · cases h
  | succ fu =>
    have ih := fun {listed tk k} => @ih0 fu (by omega) listed tk k
    intro listed tk k hc h
    unfold schK at h
    split at h
    · rename_i hr
      exact ⟨_, dDone_ok hr, h⟩
    · rename_i hne
      split at h
      · rename_i i hfi
        have hmem := List.mem_of_find?_eq_some hfi
        have hprop := List.find?_some hfi
        split at h
        · rename_i o ho
          rw [ho] at hprop
          simp only [Bool.and_eq_true] at hprop
          obtain ⟨_, hfree⟩ := hprop
          have hnd := copK_nd h
          obtain ⟨f, kd, h1, hs⟩ := copK_t h
          obtain ⟨s, hd, h2⟩ := dstK_t h1
          obtain ⟨gd, hg, h3⟩ := gdK_t h2
          obtain ⟨r, hr, h4⟩ := ih (hc.set hmem) h3
          rcases hd with ⟨_, rfl⟩ | ⟨t, s, hdst, ht, rfl, hput⟩
          · cases kd <;> rcases hg with ⟨_, rfl⟩ | ⟨_, _, _, _, _, _, _, rfl, _⟩ <;> cases h4
          · have qc : Qc P n ops listed i o t s := ⟨ho, hdst, ht, hput, hnd, hsel, hc, hfree, hmem⟩
            have hsub : ∀ j ∈ tk, j ∈ (match readOp o.op with | true => i :: tk | false => tk) := fun j hj => by
              split
              · exact List.mem_cons_of_mem _ hj
              · exact hj
            cases hs with
            | loud => rcases hg with ⟨_, rfl⟩ | ⟨_, _, _, _, _, _, _, rfl, _⟩ <;> cases h4
            | quiet q =>
              rcases hg with ⟨hg1, rfl⟩ | ⟨j, wn, dj, g, hg1, hg2, hg3, rfl, hg4⟩
              · exact ⟨_, take_ok qc q hg1 hr hsub, h4⟩
              · exact ⟨_, takeG_ok qc q hg1 hg2 hg3 hg4 hr hsub, h4⟩
            | read hrdv q =>
              rcases hg with ⟨hg1, rfl⟩ | ⟨j, wn, dj, g, hg1, hg2, hg3, rfl, hg4⟩
              · obtain ⟨hro, h5⟩ := bi_f h4
                rw [fN_eq] at h5
                exact ⟨_, read_ok qc hrdv q hg1 hr hsub (by rw [hro]; simp), h5⟩
              · obtain ⟨hro, h5⟩ := bi_f h4
                rw [fN_eq] at h5
                exact ⟨_, readG_ok qc hrdv q hg1 hg2 hg3 hg4 hr hsub (by rw [hro]; simp), h5⟩
        · cases h
      · split at h
        · rename_i i hre
          obtain ⟨o, f, s, gd, ho, hd, hg, hnd, hw, h1⟩ := loudK_t h
          obtain ⟨r, hr, h2⟩ := ih (hc.set (by rw [hre]; simp)) h1
          refine ⟨_, ⟨fun cf rb fr h x rds kf E R σ a w Ss hcf hrb e hfr H hrd htk => ⟨fun e1 => (by rw [hre] at e1; cases e1), fun j hj => ?_⟩⟩, h2⟩
          rw [hre] at hj
          simp at hj
          subst hj
          exact dOne_ok ho hd hg hnd hw hr hcf hrb e hfr H hrd htk
        · rename_i i j hre
          have hm : ∀ q ∈ Region.ready .any ops listed, q = i ∨ q = j := fun q hq => by
            rw [hre] at hq
            simpa using hq
          split at h
          · rename_i hp
            split at h
            · cases h
            · rename_i fu2 he
              obtain rfl : fu = fu2 := by omega
              obtain ⟨b, h1, hb⟩ := parK_t hp hsel (by rw [hre]; simp) hm h
              obtain ⟨_, _, _, _, _, _, _, _, hri, _⟩ := parC_t hp
              cases fu with
              | zero => unfold schK at h1; cases h1
              | succ fu2 =>
              obtain ⟨r, hr, h2⟩ := ih0 fu2 (by omega) (hc.set (by rw [hre]; simp) |>.set (by rw [hri]; simp)) h1
              exact ⟨_, hb r fu2 hr, h2⟩
          · split at h
            · rename_i hp
              split at h
              · cases h
              · rename_i fu2 he
                obtain rfl : fu = fu2 := by omega
                obtain ⟨b, h1, hb⟩ := parK_t hp hsel (by rw [hre]; simp) (fun q hq => (hm q hq).symm) h
                obtain ⟨_, _, _, _, _, _, _, _, hri, _⟩ := parC_t hp
                cases fu with
                | zero => unfold schK at h1; cases h1
                | succ fu2 =>
                obtain ⟨r, hr, h2⟩ := ih0 fu2 (by omega) (hc.set (by rw [hre]; simp) |>.set (by rw [hri]; simp)) h1
                exact ⟨_, hb r fu2 hr, h2⟩
            · skip
              obtain ⟨o, f, s, gd, ho, hd, hg, hnd, hw, h1⟩ := loudK_t h
              obtain ⟨o2, f2, s2, gd2, ho2, hd2, hg2, hnd2, hw2, h2⟩ := loudK_t h1
              obtain ⟨r, hr, h3⟩ := ih (hc.set (by rw [hre]; simp)) h2
              obtain ⟨r2, hr2, h4⟩ := ih (hc.set (by rw [hre]; simp)) h3
              refine ⟨_, ⟨fun cf rb fr h x rds kf E R σ a w Ss hcf hrb e hfr H hrd htk => ⟨fun e1 => (by rw [hre] at e1; cases e1), fun j' hj => ?_⟩⟩, h4⟩
              obtain ⟨e1, e2⟩ := bi_f e
              rw [hre] at hj
              simp at hj
              rcases hj with rfl | rfl
              · exact dOne_ok ho hd hg hnd hw hr hcf hrb e1 hfr H hrd htk
              · exact dOne_ok ho2 hd2 hg2 hnd2 hw2 hr2 hcf hrb e2 hfr H hrd htk
        · cases h
end
end Go.Rc
