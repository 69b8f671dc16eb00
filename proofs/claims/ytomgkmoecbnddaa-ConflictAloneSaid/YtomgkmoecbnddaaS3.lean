/- Conflict: ConflictAsked in plain words. -/
import Derived.Test.YtomgkmoecbnddaaS2
set_option linter.unusedVariables false
set_option linter.unusedSimpArgs false
set_option linter.unnecessarySimpa false
namespace Go.Proofs.Ytomgkmoecbnddaa
open Go.Sym

/-- but for the transactions ex: who is doomed stays so, nobody starts to run again, nobody comes -/
def Evo (g g' : Gr) (ex : Int → Prop) : Prop :=
  (∀ k, ¬ ex k → g.isDoomed k = true → g'.isDoomed k = true) ∧ ∀ k n', findL g'.nodes k = some n' → ∃ n, findL g.nodes k = some n ∧ (n'.state = 0 → n.state = 0)
theorem Evo.refl (g : Gr) (ex : Int → Prop) : Evo g g ex := ⟨fun _ _ h => h, fun _ n' h => ⟨n', h, id⟩⟩
theorem Evo.trans {g g1 g2 : Gr} {ex : Int → Prop} (h : Evo g g1 ex) (h2 : Evo g1 g2 ex) : Evo g g2 ex := ⟨fun k hk hd => h2.1 k hk (h.1 k hk hd), fun k n' hf => by
  obtain ⟨n1, h3, h4⟩ := h2.2 k n' hf
  obtain ⟨n, h5, h6⟩ := h.2 k n1 h3
  exact ⟨n, h5, fun e => h6 (h4 e)⟩⟩
theorem Evo.upd {g : Gr} {ex : Int → Prop} {p : Int → Bool} {f : Nd → Nd} (hid : ∀ n, (f n).id = n.id) (hf : ∀ n, findL g.nodes n.id = some n → p n.id = true → (n.gone = true → ¬ ex n.id → (f n).gone = true) ∧ ((f n).state = 0 → n.state = 0)) : Evo g (g.upd p f) ex := by
  refine ⟨fun k hk hd => ?_, fun k n' h => ?_⟩
  · unfold Gr.isDoomed at hd ⊢
    rw [upd_nodes, findL_upd hid]
    cases h : findL g.nodes k with
    | none => rw [h] at hd; cases hd
    | some n =>
      rw [h] at hd
      obtain ⟨h1, h2⟩ := findL_some h
      subst h2
      simp only [Option.map_some]
      by_cases hp : p n.id = true
      · rw [if_pos hp]; exact (hf n h hp).1 hd hk
      · rw [if_neg hp]; exact hd
  · rw [upd_nodes, findL_upd hid] at h
    cases hg : findL g.nodes k with
    | none => rw [hg] at h; cases h
    | some n =>
      rw [hg] at h
      simp only [Option.map_some, Option.some.injEq] at h
      obtain ⟨h1, h2⟩ := findL_some hg
      subst h2
      refine ⟨n, rfl, fun e => ?_⟩
      by_cases hp : p n.id = true
      · rw [if_pos hp] at h; subst h; exact (hf n hg hp).2 e
      · rw [if_neg hp] at h; subst h; exact e
theorem gone_iff (n : Nd) : n.gone = true ↔ n.state = 0 ∧ n.dm = true := by unfold Nd.gone; simp
theorem Evo.doomV (g : Gr) (vs : List Int) (ex : Int → Prop) : Evo g (g.doomV vs) ex := Evo.upd setDm_id fun n _ _ => ⟨fun h _ => by rw [gone_iff] at h ⊢; exact ⟨h.1, rfl⟩, id⟩
theorem Evo.linkQ (g : Gr) (r w : Nd) (ex : Int → Prop) : Evo g (g.linkQ r w) ex := by
  unfold Gr.linkQ
  split
  · exact Evo.upd (fun _ => rfl) fun n _ _ => ⟨fun h _ => by rw [gone_iff] at h ⊢; exact h, id⟩
  · split
    · exact Evo.upd (fun _ => rfl) fun n _ _ => ⟨fun h _ => by rw [gone_iff] at h ⊢; exact h, id⟩
    · refine Evo.trans (g1 := g.upd (at1 r.id) fun n => { n with outs := addI n.outs w.id }) ?_ ?_
      · exact Evo.upd (fun _ => rfl) fun n _ _ => ⟨fun h _ => by rw [gone_iff] at h ⊢; exact h, id⟩
      · exact Evo.upd (fun _ => rfl) fun n _ _ => ⟨fun h _ => by rw [gone_iff] at h ⊢; exact h, id⟩
theorem Evo.edgeG (g : Gr) (a b : Int) (ex : Int → Prop) : Evo g (g.edgeG a b) ex := by
  unfold Gr.edgeG
  cases findL g.nodes a with
  | none => exact .refl _ _
  | some r =>
    cases findL g.nodes b with
    | none => exact .refl _ _
    | some w =>
      dsimp only
      split
      · exact .refl _ _
      · have hl := Evo.linkQ g r w ex
        split
        · exact hl.trans (Evo.doomV _ _ _)
        · exact hl
theorem checkQ_evo (g : Gr) (a : Int) (ex : Int → Prop) : Evo g (g.checkQ a).2 ex ∧ ((g.checkQ a).1 = 0 → g.isDoomed a = false ∧ ∀ n', findL (g.checkQ a).2.nodes a = some n' → n'.state ≠ 0) := by
  unfold Gr.checkQ
  cases h : findL g.nodes a with
  | none => exact ⟨.refl _ _, fun e => absurd (show (41 : Int) = 0 from e) (by decide)⟩
  | some n =>
    obtain ⟨hn, hid⟩ := findL_some h
    dsimp only
    split
    · exact ⟨.refl _ _, fun e => absurd (show (41 : Int) = 0 from e) (by decide)⟩
    · rename_i h0
      split
      · exact ⟨.refl _ _, fun e => absurd (show (43 : Int) = 0 from e) (by decide)⟩
      · rename_i hdm
        split
        · exact ⟨Evo.doomV _ _ _, fun e => absurd (show (43 : Int) = 0 from e) (by decide)⟩
        · rename_i hnm
          have hnd : g.isDoomed a = false := by unfold Gr.isDoomed; rw [h]; simp [Nd.gone, hdm]
          have hno : ∀ m, findL (g.doomV (chkL g.nodes n)).nodes a = some m → m.state = 0 ∧ m.dm = false := fun m hm => by
            unfold Gr.doomV at hm
            rw [upd_nodes, findL_upd setDm_id, h, Option.map_some, if_neg (by simpa using hnm), Option.some.injEq] at hm
            subst hm
            exact ⟨Classical.byContradiction fun e => h0 e, by simpa using hdm⟩
          refine ⟨(Evo.doomV g _ ex).trans (Evo.upd setAsk_id fun m hm hp => ?_), fun _ => ⟨hnd, fun n' hn' => ?_⟩⟩
          · have hma : m.id = a := by simpa [at1] using hp
            refine ⟨fun hgo _ => ?_, fun e => ?_⟩
            · rw [hma] at hm
              rw [gone_iff] at hgo
              have := (hno m hm).2
              rw [hgo.2] at this; cases this
            · unfold setAsk at e
              split at e
              · exact e
              · exact absurd (show (1 : Int) = 0 from e) (by decide)
          · rw [upd_nodes, findL_upd setAsk_id] at hn'
            cases hf : findL (g.doomV (chkL g.nodes n)).nodes a with
            | none => rw [hf] at hn'; cases hn'
            | some m =>
              rw [hf, Option.map_some, if_pos (by simp [at1]), Option.some.injEq] at hn'
              subst hn'
              unfold setAsk
              rw [if_neg (by rw [(hno m hf).1]; decide)]
              exact fun e => absurd (show (1 : Int) = 0 from e) (by decide)
theorem Evo.ended {g : Gr} {ex : Int → Prop} (es : List Nd) (hs : ∀ n ∈ es, n ∈ g.ended) (hen : ∀ n ∈ g.ended, n.state = 2) (hnd : (g.nodes.map (·.id)).Nodup) : Evo g { g with ended := es } ex := by
  refine ⟨fun k _ hd => ?_, fun k n' h => ?_⟩
  · unfold Gr.isDoomed Gr.nodes at hd ⊢
    rw [findL_app] at hd ⊢
    cases h : findL g.live k with
    | some n => rw [h] at hd; exact hd
    | none =>
      rw [h] at hd
      cases h2 : findL g.ended k with
      | none => rw [h2] at hd; cases hd
      | some n =>
        rw [h2] at hd
        have h3 := hen n (findL_some h2).1
        have hd : n.gone = true := hd
        rw [gone_iff, h3] at hd
        exact absurd hd.1 (by decide)
  · unfold Gr.nodes at h
    rw [findL_app] at h
    cases h2 : findL g.live k with
    | some n =>
      simp only [h2, Option.some_or, Option.some.injEq] at h
      subst h
      exact ⟨n, by unfold Gr.nodes; rw [findL_app, h2]; rfl, id⟩
    | none =>
      simp only [h2, Option.none_or] at h
      obtain ⟨h3, h4⟩ := findL_some h
      refine ⟨n', ?_, id⟩
      rw [← h4]
      exact findL_mem hnd (List.mem_append_right _ (hs n' h3))
theorem off_evo {K : Nat} {g : Gr} (hI : GOk K g) {n : Nd} (hn : n ∈ g.live) {q1 q2 : Option Int} {cm : Int} {es : List Nd} (hes : ∀ m ∈ es, m.id = n.id ∧ m.state = 2) : Evo g (g.off n q1 q2 cm es) fun k => k = n.id := by
  have hnl : (g.live.map (·.id)).Nodup := by have := hI.nd; unfold Gr.nodes at this; rw [List.map_append, List.nodup_append] at this; exact this.1
  have key : ∀ k, k ≠ n.id → findL ((restL g.live n.id).map (off1 n q1 q2)) k = (findL g.live k).map (off1 n q1 q2) := fun k hk => by
    generalize g.live = l
    unfold restL findL
    induction l with
    | nil => rfl
    | cons a l ih =>
      rw [List.filter_cons]
      by_cases ha : a.id = n.id
      · rw [if_neg (by simp [ha]), ih, List.find?_cons]
        have : ¬ a.id = k := fun e => hk (e.symm.trans ha)
        simp [this]
      · rw [if_pos (by simp [ha]), List.map_cons, List.find?_cons, List.find?_cons]
        have e : (off1 n q1 q2 a).id = a.id := rfl
        rw [e]
        by_cases hak : a.id = k
        · simp [hak]
        · simp only [hak, decide_false]; exact ih
  have hoe : ∀ k, k ≠ n.id → findL es k = none := fun k hk => findL_no fun m hm e => hk (e.symm.trans (hes m hm).1)
  refine ⟨fun k hk hd => ?_, fun k n' h => ?_⟩
  · unfold Gr.isDoomed Gr.nodes at hd ⊢
    show (match findL ((restL g.live n.id).map (off1 n q1 q2) ++ (g.ended ++ es)) k with | none => false | some n => n.gone) = true
    rw [findL_app] at hd ⊢
    rw [key k hk, findL_app]
    cases h : findL g.live k with
    | some m => rw [h] at hd; exact hd
    | none =>
      rw [h] at hd
      cases h2 : findL g.ended k with
      | none => rw [h2] at hd; cases hd
      | some m => rw [h2] at hd; exact hd
  · unfold Gr.nodes at h
    rw [show (g.off n q1 q2 cm es).live = (restL g.live n.id).map (off1 n q1 q2) from rfl, show (g.off n q1 q2 cm es).ended = g.ended ++ es from rfl, findL_app] at h
    by_cases hk : k = n.id
    · subst hk
      refine ⟨n, findL_mem hI.nd (List.mem_append_left _ hn), fun e => ?_⟩
      exfalso
      have h1 : findL ((restL g.live n.id).map (off1 n q1 q2)) n.id = none := findL_no fun m hm => by
        obtain ⟨x, h2, rfl⟩ := List.mem_map.1 hm
        exact (restL_mem.1 h2).2
      rw [h1, Option.none_or, findL_app] at h
      have h2 : findL g.ended n.id = none := findL_no fun m hm e2 => by
        have h3 := findL_mem hI.nd (List.mem_append_right g.live hm)
        have h4 := findL_mem hI.nd (List.mem_append_left g.ended hn)
        rw [e2] at h3
        have h5 : m = n := Option.some.inj (h3.symm.trans h4)
        rw [h5] at hm
        exact hI.lv n hn (hI.en n hm)
      rw [h2, Option.none_or] at h
      have := (hes n' (findL_some h).1).2
      rw [this] at e; exact absurd e (by decide)
    · rw [key k hk, findL_app, hoe k hk, Option.or_none] at h
      unfold Gr.nodes
      cases h2 : findL g.live k with
      | some m =>
        rw [h2] at h
        simp only [Option.map_some, Option.some_or, Option.some.injEq] at h
        subst h
        exact ⟨m, by rw [findL_app, h2]; rfl, id⟩
      | none =>
        rw [h2] at h
        simp only [Option.map_none, Option.none_or] at h
        exact ⟨n', by rw [findL_app, h2]; exact h, id⟩
theorem abortQ_evo {K : Nat} {g : Gr} (hI : GOk K g) (hS : SymG g) (a : Int) : Evo g (g.abortQ a) fun k => k = a := by
  unfold Gr.abortQ
  cases h : findL g.nodes a with
  | none => exact .refl _ _
  | some n =>
    obtain ⟨hn, hid⟩ := findL_some h
    dsimp only
    split
    · exact .refl _ _
    · rename_i hs
      have hnl : n ∈ g.live := (List.mem_append.1 hn).resolve_right fun e => hs (hI.en n e)
      have hg := (off_gok (K' := K) (q1 := none) (q2 := none) (cm := g.commits) (es := []) hI hS hnl (Nat.le_refl _) hI.sz.2.2.2 ⟨hI.sz.2.1, hI.sz.2.2.1⟩ (.inl rfl)).1
      have h1 := off_evo hI hnl (q1 := none) (q2 := none) (cm := g.commits) (es := []) (fun m hm => by cases hm)
      rw [hid] at h1
      exact h1.trans (Evo.ended _ (fun m hm => (List.mem_filter.1 hm).1) hg.en hg.nd)
theorem commitQ_evo {K : Nat} {g : Gr} (hI : GOk K g) (hS : SymG g) (hK : K + 1 ≤ 4000) (a : Int) : Evo g (g.commitQ a) fun k => k = a := by
  unfold Gr.commitQ
  cases h : findL g.nodes a with
  | none => exact .refl _ _
  | some n =>
    obtain ⟨hn, hid⟩ := findL_some h
    dsimp only
    split
    · exact .refl _ _
    · rename_i hs
      have hnl : n ∈ g.live := (List.mem_append.1 hn).resolve_right fun e => hs (hI.en n e)
      have hrg := hI.rg n hn
      have hsz := hI.sz
      have hg := (off_gok (K' := K + 1) (q1 := some (g.commits + 1)) (q2 := some (doneN n (g.commits + 1)).far) (cm := g.commits + 1) (es := [doneN n (g.commits + 1)]) hI hS hnl (by omega) hK (by omega) (.inr ⟨_, rfl, rfl, rfl, rfl, rfl, by show 0 ≤ n.begin_; omega, by show n.begin_ ≤ _; omega, by show 0 ≤ g.commits + 1; omega, by show g.commits + 1 ≤ _; omega⟩)).1
      have h1 := off_evo hI hnl (q1 := some (g.commits + 1)) (q2 := some (doneN n (g.commits + 1)).far) (cm := g.commits + 1) (es := [doneN n (g.commits + 1)]) (fun m hm => by rw [List.mem_singleton.1 hm]; exact ⟨rfl, rfl⟩)
      rw [hid] at h1
      exact h1.trans (Evo.ended _ (fun m hm => (List.mem_filter.1 hm).1) hg.en hg.nd)
/-! ### the law's state -/
structure AInv (g : Gr) (nx : Nat) (lt : Nat → Bool) : Prop where
  ids : ∀ n ∈ g.nodes, ∃ k : Nat, n.id = (k : Int) ∧ k < nx
  lts : ∀ k : Nat, lt k = true → k < nx ∧ ∀ n, findL g.nodes (k : Int) = some n → n.state ≠ 0
theorem AInv.evo {g g' : Gr} {nx : Nat} {lt : Nat → Bool} {ex : Int → Prop} (h : AInv g nx lt) (he : Evo g g' ex) (hnd : (g'.nodes.map (·.id)).Nodup) : AInv g' nx lt := by
  refine ⟨fun n' hn => ?_, fun k hk => ⟨(h.lts k hk).1, fun n' hn' e => ?_⟩⟩
  · obtain ⟨n, h1, _⟩ := he.2 n'.id n' (findL_mem hnd hn)
    obtain ⟨h2, h3⟩ := findL_some h1
    rw [← h3]; exact h.ids n h2
  · obtain ⟨n, h1, h2⟩ := he.2 k n' hn'
    exact (h.lts k hk).2 n h1 (h2 e)
theorem AInv.sees {g : Gr} {nx : Nat} {lt : Nat → Bool} (h : AInv g nx lt) {k : Nat} (hk : lt k = true) : g.isDoomed (k : Int) = false := by
  unfold Gr.isDoomed
  cases hf : findL g.nodes (k : Int) with
  | none => rfl
  | some n =>
    have := (h.lts k hk).2 n hf
    simp [Nd.gone, this]
theorem AInv.next {g : Gr} {nx : Nat} {lt : Nat → Bool} (h : AInv g nx lt) : findL g.nodes (nx : Int) = none := findL_no fun n hn e => by
  obtain ⟨k, h1, h2⟩ := h.ids n hn
  omega
def upB (s : Nat → Bool) (a : Nat) (v : Bool) : Nat → Bool := fun k => if k = a then v else s k
theorem AInv.begin {g : Gr} {nx : Nat} {lt : Nat → Bool} (h : AInv g nx lt) {ro : Bool} : AInv (g.beginQ nx ro) (nx + 1) lt ∧ ∀ k : Int, g.isDoomed k = true → (g.beginQ nx ro).isDoomed k = true := by
  have hno := h.next
  have e : g.beginQ nx ro = g.addN nx ro := by unfold Gr.beginQ; rw [hno]
  rw [e]
  have hf : ∀ k : Int, k ≠ nx → findL (g.addN nx ro).nodes k = findL g.nodes k := fun k hk => by
    unfold Gr.nodes
    show findL (g.live ++ [newN g nx ro] ++ g.ended) k = _
    rw [findL_app, findL_app, findL_app, findL_no (l := [newN g nx ro]) fun m hm => by rw [List.mem_singleton.1 hm]; exact Ne.symm hk, Option.or_none]
  refine ⟨⟨fun n hn => ?_, fun k hk => ?_⟩, fun k hd => ?_⟩
  · rcases List.mem_append.1 hn with h1 | h1
    · rcases List.mem_append.1 h1 with h1 | h1
      · obtain ⟨k, h2, h3⟩ := h.ids n (List.mem_append_left _ h1); exact ⟨k, h2, by omega⟩
      · rw [List.mem_singleton.1 h1]; exact ⟨nx, rfl, by omega⟩
    · obtain ⟨k, h2, h3⟩ := h.ids n (List.mem_append_right _ h1); exact ⟨k, h2, by omega⟩
  · have hk2 := h.lts k hk
    refine ⟨by omega, fun n hn => ?_⟩
    rw [hf k (by omega)] at hn
    exact hk2.2 n hn
  · unfold Gr.isDoomed at hd ⊢
    by_cases hk : k = nx
    · subst hk; rw [hno] at hd; cases hd
    · rw [hf k hk]; exact hd
theorem AInv.check {g : Gr} {nx : Nat} {lt : Nat → Bool} (h : AInv g nx lt) {a : Nat} (hnd : ((g.checkQ a).2.nodes.map (·.id)).Nodup) : AInv (g.checkQ a).2 nx (upB lt a (lt a || decide ((g.checkQ a).1 = 0))) ∧ (∀ k : Int, g.isDoomed k = true → (g.checkQ a).2.isDoomed k = true) ∧ ((g.checkQ a).1 = 0 → g.isDoomed a = false) := by
  obtain ⟨he, h0⟩ := checkQ_evo g a fun _ => False
  have h1 := h.evo he hnd
  refine ⟨⟨h1.ids, fun k hk => ?_⟩, fun k hd => he.1 k id hd, fun e => (h0 e).1⟩
  unfold upB at hk
  split at hk
  · rename_i hka
    subst hka
    by_cases hl : lt k = true
    · exact h1.lts k hl
    · have hl : lt k = false := by simpa using hl
      rw [hl, Bool.false_or, decide_eq_true_eq] at hk
      refine ⟨?_, (h0 hk).2⟩
      -- it is in the graph
      have : ∃ n, findL g.nodes (k : Int) = some n := by
        cases hf : findL g.nodes (k : Int) with
        | some n => exact ⟨n, rfl⟩
        | none =>
          have : g.checkQ k = (41, g) := by unfold Gr.checkQ; rw [hf]
          rw [this] at hk; exact absurd (show (41 : Int) = 0 from hk) (by decide)
      obtain ⟨n, hn⟩ := this
      obtain ⟨h2, h3⟩ := findL_some hn
      obtain ⟨j, h4, h5⟩ := h.ids n h2
      omega
  · exact h1.lts k hk
theorem AInv.new (most : Int) : AInv (Gr.new most) 1 fun _ => false := ⟨fun n hn => (by cases hn), fun k hk => (by cases hk)⟩
end Go.Proofs.Ytomgkmoecbnddaa
