/- Conflict: link over a graph's blocks; Doomed. -/
import Derived.Test.YtomgkmoecbnddaaQ6
set_option linter.unusedVariables false
set_option linter.unusedSimpArgs false
set_option linter.unnecessarySimpa false
namespace Go.Proofs.Ytomgkmoecbnddaa
open Go.Sym

theorem turn_perm {L L' A : List Blk} {b : Nat} {o o' : Obj} (h : Turn L b o o' L') (hp : L.Perm ((b, o) :: A)) : L'.Perm ((b, o') :: A) := by
  have key : ∃ A', L.Perm ((b, o) :: A') ∧ L'.Perm ((b, o') :: A') := by
    clear hp
    induction h with
    | here => exact ⟨_, .refl _, .refl _⟩
    | there _ ih =>
      obtain ⟨A', h1, h2⟩ := ih
      exact ⟨_ :: A', (h1.cons _).trans (.swap ..), (h2.cons _).trans (.swap ..)⟩
  obtain ⟨A', h1, h2⟩ := key
  exact h2.trans ((List.Perm.cons_inv (h1.symm.trans hp)).cons _)
theorem pick2 {x y : Blk} {L : List Blk} (hx : x ∈ L) (hy : y ∈ L) (hne : x ≠ y) : ∃ A, L.Perm (x :: y :: A) := by
  obtain ⟨A, hA⟩ := pick_of_mem hx
  have h1 : y ∈ x :: A := hA.mem_iff.1 hy
  rcases List.mem_cons.1 h1 with h | h
  · exact absurd h.symm hne
  · obtain ⟨B, hB⟩ := pick_of_mem h
    exact ⟨B, hA.trans (hB.cons _)⟩
theorem putV_klist (ρ : Int → Raw) (l : List Int) (k : Int) : putV (klist ρ l) k (ptrB (ρ k).b) = klist ρ (addI l k) := by
  unfold putV addI
  have hh : hasK (klist ρ l) k = l.contains k := by
    unfold hasK klist
    rw [Bool.eq_iff_iff]
    simp
  rw [hh]
  split
  · unfold klist
    rw [List.map_map]
    apply List.map_congr_left
    intro x _
    simp only [Function.comp]
    split
    · rename_i h; rw [h]
    · rfl
  · unfold klist; rw [List.map_append]; rfl
theorem delV_klist (ρ : Int → Raw) (l : List Int) (k : Int) : delV (klist ρ l) k = klist ρ (rmI l k) := by
  unfold delV rmI klist
  rw [List.filter_map]
  rfl
theorem klist_congr {ρ ρ' : Int → Raw} (h : ∀ k, (ρ' k).b = (ρ k).b) (l : List Int) : klist ρ' l = klist ρ l := by
  unfold klist
  apply List.map_congr_left
  intro k _
  rw [h k]
theorem mlist_congr {ρ ρ' : Int → Raw} (h : ∀ k, (ρ' k).b = (ρ k).b) (l : List Nd) : mlist ρ' l = mlist ρ l := by
  unfold mlist
  apply List.map_congr_left
  intro k _
  rw [h k.id]
theorem upd_live {g : Gr} {p : Int → Bool} {f : Nd → Nd} (hf : ∀ n, (f n).id = n.id) {k : Int} (h : ∃ m ∈ g.live, m.id = k) : ∃ m ∈ (g.upd p f).live, m.id = k := by
  obtain ⟨m, h1, h2⟩ := h
  have : k ∈ (updL g.live p f).map (·.id) := by rw [updL_ids hf]; exact List.mem_map.2 ⟨m, h1, h2⟩
  obtain ⟨m', h3, h4⟩ := List.mem_map.1 this
  exact ⟨m', h3, h4⟩
theorem InvN.setOuts {K : Nat} {g : Gr} {ρ : Int → Raw} (h : InvN K g ρ) {n : Nd} {f : Nd → Nd} {es : Array MapEntry} {c : Nat} (hn : n ∈ g.live) (hf : ∀ x, ∃ oo, f x = { x with outs := oo })
    (hM : MapOf (Value.int .i64) (klist ρ (f n).outs) es c) (hc : ∀ k ∈ (f n).outs, k ≠ n.id ∧ ∃ m ∈ g.live, m.id = k) : InvN K (g.upd (at1 n.id) f) (setO ρ n.id es c) := by
  have hid : ∀ x, (f x).id = x.id := fun x => by obtain ⟨oo, h⟩ := hf x; rw [h]
  have hb : ∀ k, (setO ρ n.id es c k).b = (ρ k).b := fun k => (setO_b ρ n.id es c k).1
  have hnn : n ∈ g.nodes := List.mem_append_left _ hn
  have uniq : ∀ x ∈ g.nodes, x.id = n.id → x = n := fun x hx he => by
    have h1 := findL_mem h.nd hx; have h2 := findL_mem h.nd hnn
    rw [he] at h1; exact Option.some.inj (h1.symm.trans h2)
  have key : ∀ {l : List Nd} {m : Nd}, (∀ x ∈ l, x ∈ g.nodes) → m ∈ updL l (at1 n.id) f → ∃ x ∈ l, (x = n ∧ m = f n) ∨ (x.id ≠ n.id ∧ m = x) := fun {l m} hl hm => by
    obtain ⟨x, h1, h2⟩ := updL_mem hm
    refine ⟨x, h1, ?_⟩
    by_cases he : x.id = n.id
    · have := uniq x (hl x h1) he; subst this
      rw [if_pos (by simp [at1])] at h2
      exact .inl ⟨rfl, h2⟩
    · rw [if_neg (by simp [at1, he])] at h2
      exact .inr ⟨he, h2⟩
  have hl1 : ∀ x ∈ g.live, x ∈ g.nodes := fun x hx => List.mem_append_left _ hx
  have hl2 : ∀ x ∈ g.ended, x ∈ g.nodes := fun x hx => List.mem_append_right _ hx
  obtain ⟨oo, hfn⟩ := hf n
  refine ⟨?_, ?_, ?_, ?_, ?_, ?_, ?_, ?_, ?_, ?_, ?_⟩
  · rw [upd_nodes, updL_ids hid]; exact h.nd
  · intro m hm; obtain ⟨x, h1, ⟨rfl, rfl⟩ | ⟨_, rfl⟩⟩ := key hl1 hm
    · rw [hfn]; exact h.lv x h1
    · exact h.lv _ h1
  · intro m hm; obtain ⟨x, h1, ⟨rfl, rfl⟩ | ⟨_, rfl⟩⟩ := key hl2 hm
    · rw [hfn]; exact h.en x h1
    · exact h.en _ h1
  · intro m hm; rw [klist_congr hb]
    obtain ⟨x, h1, ⟨rfl, rfl⟩ | ⟨_, rfl⟩⟩ := key hl1 hm
    · rw [hid, (setO_b ρ _ es c _).2.2.2.1, (setO_b ρ _ es c _).2.2.2.2.1, hfn]; exact h.mi x h1
    · rw [(setO_b ρ _ es c _).2.2.2.1, (setO_b ρ _ es c _).2.2.2.2.1]; exact h.mi _ h1
  · intro m hm; rw [klist_congr hb]
    obtain ⟨x, h1, ⟨rfl, rfl⟩ | ⟨h2, rfl⟩⟩ := key hl1 hm
    · rw [hid]; unfold setO; rw [if_pos rfl]; exact hM
    · unfold setO; rw [if_neg h2]; exact h.mo _ h1
  · intro m hm k hk; obtain ⟨x, h1, ⟨rfl, rfl⟩ | ⟨_, rfl⟩⟩ := key hl1 hm
    · rw [hfn] at hk ⊢; exact ⟨(h.ci _ h1 k hk).1, upd_live hid (h.ci _ h1 k hk).2⟩
    · exact ⟨(h.ci _ h1 k hk).1, upd_live hid (h.ci _ h1 k hk).2⟩
  · intro m hm k hk; obtain ⟨x, h1, ⟨rfl, rfl⟩ | ⟨_, rfl⟩⟩ := key hl1 hm
    · rw [hid]; exact ⟨(hc k hk).1, upd_live hid (hc k hk).2⟩
    · exact ⟨(h.co _ h1 k hk).1, upd_live hid (h.co _ h1 k hk).2⟩
  · intro m hm; obtain ⟨x, h1, ⟨rfl, rfl⟩ | ⟨_, rfl⟩⟩ := key hl2 hm
    · exact absurd (h.en _ h1) (h.lv _ hn)
    · exact h.em _ h1
  · intro m hm; rw [upd_nodes] at hm; rw [(setO_b ρ _ es c _).2.2.2.2.2.1, (setO_b ρ _ es c _).2.2.2.2.2.2]
    obtain ⟨x, h1, ⟨rfl, rfl⟩ | ⟨_, rfl⟩⟩ := key (fun _ h => h) hm
    · rw [hfn]; exact h.bs x h1
    · exact h.bs _ h1
  · intro m hm; rw [upd_nodes] at hm; obtain ⟨x, h1, ⟨rfl, rfl⟩ | ⟨_, rfl⟩⟩ := key (fun _ h => h) hm
    · rw [hfn]; exact h.rg x h1
    · exact h.rg _ h1
  · refine ⟨?_, h.sz.2⟩
    show (updL g.live _ f).length ≤ K
    unfold updL; rw [List.length_map]; exact h.sz.1
theorem InvN.setIns {K : Nat} {g : Gr} {ρ : Int → Raw} (h : InvN K g ρ) {n : Nd} {f : Nd → Nd} {es : Array MapEntry} {c : Nat} (hn : n ∈ g.live) (hf : ∀ x, ∃ oo, f x = { x with ins := oo })
    (hM : MapOf (Value.int .i64) (klist ρ (f n).ins) es c) (hc : ∀ k ∈ (f n).ins, k ≠ n.id ∧ ∃ m ∈ g.live, m.id = k) : InvN K (g.upd (at1 n.id) f) (setI ρ n.id es c) := by
  have hid : ∀ x, (f x).id = x.id := fun x => by obtain ⟨oo, h⟩ := hf x; rw [h]
  have hb : ∀ k, (setI ρ n.id es c k).b = (ρ k).b := fun k => (setI_b ρ n.id es c k).1
  have hnn : n ∈ g.nodes := List.mem_append_left _ hn
  have uniq : ∀ x ∈ g.nodes, x.id = n.id → x = n := fun x hx he => by
    have h1 := findL_mem h.nd hx; have h2 := findL_mem h.nd hnn
    rw [he] at h1; exact Option.some.inj (h1.symm.trans h2)
  have key : ∀ {l : List Nd} {m : Nd}, (∀ x ∈ l, x ∈ g.nodes) → m ∈ updL l (at1 n.id) f → ∃ x ∈ l, (x = n ∧ m = f n) ∨ (x.id ≠ n.id ∧ m = x) := fun {l m} hl hm => by
    obtain ⟨x, h1, h2⟩ := updL_mem hm
    refine ⟨x, h1, ?_⟩
    by_cases he : x.id = n.id
    · have := uniq x (hl x h1) he; subst this
      rw [if_pos (by simp [at1])] at h2
      exact .inl ⟨rfl, h2⟩
    · rw [if_neg (by simp [at1, he])] at h2
      exact .inr ⟨he, h2⟩
  have hl1 : ∀ x ∈ g.live, x ∈ g.nodes := fun x hx => List.mem_append_left _ hx
  have hl2 : ∀ x ∈ g.ended, x ∈ g.nodes := fun x hx => List.mem_append_right _ hx
  obtain ⟨oo, hfn⟩ := hf n
  refine ⟨?_, ?_, ?_, ?_, ?_, ?_, ?_, ?_, ?_, ?_, ?_⟩
  · rw [upd_nodes, updL_ids hid]; exact h.nd
  · intro m hm; obtain ⟨x, h1, ⟨rfl, rfl⟩ | ⟨_, rfl⟩⟩ := key hl1 hm
    · rw [hfn]; exact h.lv x h1
    · exact h.lv _ h1
  · intro m hm; obtain ⟨x, h1, ⟨rfl, rfl⟩ | ⟨_, rfl⟩⟩ := key hl2 hm
    · rw [hfn]; exact h.en x h1
    · exact h.en _ h1
  · intro m hm; rw [klist_congr hb]
    obtain ⟨x, h1, ⟨rfl, rfl⟩ | ⟨h2, rfl⟩⟩ := key hl1 hm
    · rw [hid]; unfold setI; rw [if_pos rfl]; exact hM
    · unfold setI; rw [if_neg h2]; exact h.mi _ h1
  · intro m hm; rw [klist_congr hb]
    obtain ⟨x, h1, ⟨rfl, rfl⟩ | ⟨_, rfl⟩⟩ := key hl1 hm
    · rw [hid, (setI_b ρ _ es c _).2.2.2.1, (setI_b ρ _ es c _).2.2.2.2.1, hfn]; exact h.mo x h1
    · rw [(setI_b ρ _ es c _).2.2.2.1, (setI_b ρ _ es c _).2.2.2.2.1]; exact h.mo _ h1
  · intro m hm k hk; obtain ⟨x, h1, ⟨rfl, rfl⟩ | ⟨_, rfl⟩⟩ := key hl1 hm
    · rw [hid]; exact ⟨(hc k hk).1, upd_live hid (hc k hk).2⟩
    · exact ⟨(h.ci _ h1 k hk).1, upd_live hid (h.ci _ h1 k hk).2⟩
  · intro m hm k hk; obtain ⟨x, h1, ⟨rfl, rfl⟩ | ⟨_, rfl⟩⟩ := key hl1 hm
    · rw [hfn] at hk ⊢; exact ⟨(h.co _ h1 k hk).1, upd_live hid (h.co _ h1 k hk).2⟩
    · exact ⟨(h.co _ h1 k hk).1, upd_live hid (h.co _ h1 k hk).2⟩
  · intro m hm; obtain ⟨x, h1, ⟨rfl, rfl⟩ | ⟨_, rfl⟩⟩ := key hl2 hm
    · exact absurd (h.en _ h1) (h.lv _ hn)
    · exact h.em _ h1
  · intro m hm; rw [upd_nodes] at hm; rw [(setI_b ρ _ es c _).2.2.2.2.2.1, (setI_b ρ _ es c _).2.2.2.2.2.2]
    obtain ⟨x, h1, ⟨rfl, rfl⟩ | ⟨_, rfl⟩⟩ := key (fun _ h => h) hm
    · rw [hfn]; exact h.bs x h1
    · exact h.bs _ h1
  · intro m hm; rw [upd_nodes] at hm; obtain ⟨x, h1, ⟨rfl, rfl⟩ | ⟨_, rfl⟩⟩ := key (fun _ h => h) hm
    · rw [hfn]; exact h.rg x h1
    · exact h.rg _ h1
  · refine ⟨?_, h.sz.2⟩
    show (updL g.live _ f).length ≤ K
    unfold updL; rw [List.length_map]; exact h.sz.1
theorem addI_mem {l : List Int} {x k : Int} : k ∈ addI l x ↔ k ∈ l ∨ k = x := by
  unfold addI
  by_cases h : l.contains x = true
  · rw [if_pos h]
    have : x ∈ l := by simpa using h
    exact ⟨.inl, fun h2 => h2.elim id fun e => e ▸ this⟩
  · rw [if_neg h]; simp
theorem link_tri {K : Nat} {g : Gr} {ρ : Int → Raw} (hI : InvN K g ρ) {gp : Value} {r w : Nd} (hr : r ∈ g.nodes) (hw : w ∈ g.nodes) (hne : r.id ≠ w.id) (h2 : ¬ (r.state = 2 ∧ w.state = 2)) :
    Tri Try.prog 32 #[gp, .pointer (some ⟨(ρ r.id).b, 0, none⟩), .pointer (some ⟨(ρ w.id).b, 0, none⟩)] (NC ρ g.nodes ++ NM ρ g.nodes)
      fun v L => v = .tuple #[] ∧ ∃ ρ', L = NC ρ' (g.linkQ r w).nodes ++ NM ρ' (g.linkQ r w).nodes ∧ InvN K (g.linkQ r w) ρ' ∧ ∀ k, (ρ' k).b = (ρ k).b := by
  refine tri_nd fun hd => ?_
  rw [List.map_append, List.nodup_append] at hd
  have hcne : cblk ρ r ≠ cblk ρ w := fun e => hne (congrArg Nd.id (nb_inj hd.1 hr hw (congrArg Prod.fst e)))
  have hrc : cblk ρ r ∈ NC ρ g.nodes := nb_cell hr
  have hwc : cblk ρ w ∈ NC ρ g.nodes := nb_cell hw
  obtain ⟨A, hA⟩ := pick2 hrc hwc hcne
  have hrg := hI.rg r hr
  have hK := hI.sz.2.2.2
  by_cases hw2 : w.state = 2
  · have hg : g.linkQ r w = g.upd (at1 r.id) fun n => { n with least := min n.least w.seq } := by unfold Gr.linkQ; rw [if_pos hw2]
    rw [hg]
    have hinv : InvN K (g.upd (at1 r.id) fun n => { n with least := min n.least w.seq }) ρ := hI.keep fun n => ⟨_, _, _, _, rfl, Iff.rfl⟩
    refine tri_perm' (tri_perm ((hA.append_right _).trans (by simp only [List.cons_append]; exact .refl _)) ((tri_frame (A := A ++ NM ρ g.nodes) (linkA_tri (gp := gp) (r := r) (w := w) (rb := (ρ r.id).b) (wb := (ρ w.id).b) (mir := mvN r (ρ r.id).mi) (mor := mvN r (ρ r.id).mo) (svr := (ρ r.id).sv) (miw := mvN w (ρ w.id).mi) (mow := mvN w (ρ w.id).mo) (svw := (ρ w.id).sv) hw2)).mono fun v L ⟨L0, ⟨hv, hL0⟩, hL⟩ => ?_))
    subst hL hL0
    refine ⟨_, ?_, hv, ρ, rfl, hinv, fun _ => rfl⟩
    have eNM : NM ρ (updL g.nodes (at1 r.id) fun n => { n with least := min n.least w.seq }) = NM ρ g.nodes := NM_upd (fun _ => rfl) (fun _ => Iff.rfl)
    rw [upd_nodes, eNM]
    have := turn_perm (turn_cell (f := fun n => { n with least := min n.least w.seq }) hr hI.nd rfl) hA
    exact (this.append_right (NM ρ g.nodes)).symm
  · by_cases hr2 : r.state = 2
    · have hg : g.linkQ r w = g.upd (at1 w.id) fun n => { n with reach := max n.reach r.far } := by unfold Gr.linkQ; rw [if_neg hw2, if_pos hr2]
      rw [hg]
      have hinv : InvN K (g.upd (at1 w.id) fun n => { n with reach := max n.reach r.far }) ρ := hI.keep fun n => ⟨_, _, _, _, rfl, Iff.rfl⟩
      refine tri_perm' (tri_perm ((hA.append_right _).trans (by simp only [List.cons_append]; exact .refl _)) ((tri_frame (A := A ++ NM ρ g.nodes) (linkB_tri (gp := gp) (r := r) (w := w) (rb := (ρ r.id).b) (wb := (ρ w.id).b) (mir := mvN r (ρ r.id).mi) (mor := mvN r (ρ r.id).mo) (svr := (ρ r.id).sv) (miw := mvN w (ρ w.id).mi) (mow := mvN w (ρ w.id).mo) (svw := (ρ w.id).sv) hw2 hr2 ⟨by omega, by omega, by omega, by omega⟩)).mono fun v L ⟨L0, ⟨hv, hL0⟩, hL⟩ => ?_))
      subst hL hL0
      refine ⟨_, ?_, hv, ρ, rfl, hinv, fun _ => rfl⟩
      have eNM : NM ρ (updL g.nodes (at1 w.id) fun n => { n with reach := max n.reach r.far }) = NM ρ g.nodes := NM_upd (fun _ => rfl) (fun _ => Iff.rfl)
      rw [upd_nodes, eNM]
      have := turn_perm (turn_cell (f := fun n => { n with reach := max n.reach r.far }) hw hI.nd rfl) (hA.trans (.swap _ _ _))
      exact ((this.trans (.swap _ _ _)).append_right (NM ρ g.nodes)).symm
    · have hrl : r ∈ g.live := (List.mem_append.1 hr).resolve_right fun h => hr2 (hI.en r h)
      have hwl : w ∈ g.live := (List.mem_append.1 hw).resolve_right fun h => hw2 (hI.en w h)
      have hg : g.linkQ r w = (g.upd (at1 r.id) fun n => { n with outs := addI n.outs w.id }).upd (at1 w.id) fun n => { n with ins := addI n.ins r.id } := by unfold Gr.linkQ; rw [if_neg hw2, if_neg hr2]
      rw [hg]
      have em : ncell (ρ r.id) r = r.cells (mvN r (ρ r.id).mi) (.map (some (ρ r.id).mo)) (ρ r.id).sv := by unfold ncell mvN; simp only [if_neg hr2]
      have ew : ncell (ρ w.id) w = w.cells (.map (some (ρ w.id).mi)) (mvN w (ρ w.id).mo) (ρ w.id).sv := by unfold ncell mvN; simp only [if_neg hw2]
      have h1 : (((ρ r.id).mo, .map (ρ r.id).eo (ρ r.id).co) : Blk) ∈ NM ρ g.nodes := nb_outs hr hr2
      have h3 : (((ρ w.id).mi, .map (ρ w.id).ei (ρ w.id).ci) : Blk) ∈ NM ρ g.nodes := nb_ins hw hw2
      -- the two maps are different blocks
      have hT1 : ∀ es c, Turn (NM ρ g.nodes) (ρ r.id).mo (.map (ρ r.id).eo (ρ r.id).co) (.map es c) (NM (setO ρ r.id es c) (updL g.nodes (at1 r.id) fun n => { n with outs := addI n.outs w.id })) := fun es c => turn_outs hr hI.nd hr2 ⟨_, rfl⟩
      have hw1 : w ∈ updL g.nodes (at1 r.id) fun n => { n with outs := addI n.outs w.id } := List.mem_map.2 ⟨w, hw, by rw [if_neg (by simp [at1, Ne.symm hne])]⟩
      have hnd1 : ((updL g.nodes (at1 r.id) fun n => { n with outs := addI n.outs w.id }).map (·.id)).Nodup := by rw [updL_ids (l := g.nodes) (f := fun n => { n with outs := addI n.outs w.id }) (fun _ => rfl)]; exact hI.nd
      have hmne : ((ρ r.id).mo, Obj.map (ρ r.id).eo (ρ r.id).co) ≠ ((ρ w.id).mi, Obj.map (ρ w.id).ei (ρ w.id).ci) := fun e => by
        have e1 := congrArg Prod.fst e
        simp only at e1
        -- after a turn of the first map both would stand in one block
        have hk := (hT1 #[] ((ρ r.id).co + (ρ w.id).ci + 1)).keys
        have hin : (((ρ w.id).mi, .map (ρ w.id).ei (ρ w.id).ci) : Blk) ∈ NM (setO ρ r.id #[] ((ρ r.id).co + (ρ w.id).ci + 1)) (updL g.nodes (at1 r.id) fun n => { n with outs := addI n.outs w.id }) := by
          have := nb_ins (ρ := setO ρ r.id #[] ((ρ r.id).co + (ρ w.id).ci + 1)) hw1 hw2
          unfold setO at this
          rw [if_neg (Ne.symm hne)] at this
          exact this
        rcases (hT1 #[] ((ρ r.id).co + (ρ w.id).ci + 1)).mem' hd.2.1 _ hin with h | ⟨_, h⟩
        · have := congrArg Prod.snd h; simp only [Obj.map.injEq] at this; omega
        · exact h e1.symm
      obtain ⟨B, hB⟩ := pick2 h1 h3 hmne
      have hpre : (NC ρ g.nodes ++ NM ρ g.nodes).Perm ([((ρ r.id).b, .cells (r.cells (mvN r (ρ r.id).mi) (.map (some (ρ r.id).mo)) (ρ r.id).sv).toArray 72), ((ρ w.id).b, .cells (w.cells (.map (some (ρ w.id).mi)) (mvN w (ρ w.id).mo) (ρ w.id).sv).toArray 72), ((ρ r.id).mo, .map (ρ r.id).eo (ρ r.id).co), ((ρ w.id).mi, .map (ρ w.id).ei (ρ w.id).ci)] ++ (A ++ B)) := by
        have hA' : (NC ρ g.nodes).Perm (((ρ r.id).b, .cells (r.cells (mvN r (ρ r.id).mi) (.map (some (ρ r.id).mo)) (ρ r.id).sv).toArray 72) :: ((ρ w.id).b, .cells (w.cells (.map (some (ρ w.id).mi)) (mvN w (ρ w.id).mo) (ρ w.id).sv).toArray 72) :: A) := by
          rw [← em, ← ew]; exact hA
        refine (hA'.append hB).trans ?_
        simp only [List.cons_append, List.nil_append]
        refine (List.Perm.cons _ (List.Perm.cons _ ?_))
        exact List.perm_middle.trans (List.perm_middle.cons _)
      have hmo := hI.mo r hrl
      have hmi := hI.mi w hwl
      refine tri_perm' (tri_perm hpre ((tri_frame (A := A ++ B) (linkC_tri (gp := gp) (r := r) (w := w) (rb := (ρ r.id).b) (wb := (ρ w.id).b) (mir := mvN r (ρ r.id).mi) (svr := (ρ r.id).sv) (mow := mvN w (ρ w.id).mo) (svw := (ρ w.id).sv) hw2 hr2 hmo hmi)).mono fun v L ⟨L0, ⟨hv, eo', co', ei', ci', hm1, hm2, hL0⟩, hL⟩ => ?_))
      subst hL hL0
      rw [putV_klist] at hm1 hm2
      have hinv1 : InvN K (g.upd (at1 r.id) fun n => { n with outs := addI n.outs w.id }) (setO ρ r.id eo' co') := hI.setOuts hrl (fun x => ⟨_, rfl⟩) hm1 fun k hk => by
        rcases addI_mem.1 hk with h | h
        · exact hI.co r hrl k h
        · rw [h]; exact ⟨Ne.symm hne, w, hwl, rfl⟩
      have hwl1 : w ∈ (g.upd (at1 r.id) fun n => { n with outs := addI n.outs w.id }).live := List.mem_map.2 ⟨w, hwl, by rw [if_neg (by simp [at1, Ne.symm hne])]⟩
      have hwn1 : w ∈ (g.upd (at1 r.id) fun n => { n with outs := addI n.outs w.id }).nodes := List.mem_append_left _ hwl1
      have hinv2 := hinv1.setIns (f := fun n => { n with ins := addI n.ins r.id }) (es := ei') (c := ci') hwl1 (fun x => ⟨_, rfl⟩) (by
        show MapOf _ (klist (setO ρ r.id eo' co') (addI w.ins r.id)) ei' ci'
        rw [klist_congr (ρ := ρ) fun k => (setO_b ρ r.id eo' co' k).1]; exact hm2) fun k hk => by
        rcases addI_mem.1 hk with h | h
        · exact hinv1.ci w hwl1 k h
        · rw [h]; exact ⟨hne, upd_live (f := fun n => { n with outs := addI n.outs w.id }) (fun _ => rfl) ⟨r, hrl, rfl⟩⟩
      refine ⟨_, ?_, hv, setI (setO ρ r.id eo' co') w.id ei' ci', rfl, hinv2, fun k => by rw [(setI_b _ _ _ _ _).1, (setO_b _ _ _ _ _).1]⟩
      -- the blocks
      have hT2 := turn_ins (ρ := setO ρ r.id eo' co') (l := (g.upd (at1 r.id) fun n => { n with outs := addI n.outs w.id }).nodes) (n := w) (f := fun n => { n with ins := addI n.ins r.id }) (es := ei') (c := ci') hwn1 hinv1.nd hw2 ⟨_, rfl⟩
      have hso : setO ρ r.id eo' co' w.id = ρ w.id := by unfold setO; rw [if_neg (Ne.symm hne)]
      rw [hso, upd_nodes] at hT2
      have hp1 := turn_perm (hT1 eo' co') hB
      have hp2 := turn_perm hT2 (hp1.trans (.swap _ _ _))
      have hNC : NC (setI (setO ρ r.id eo' co') w.id ei' ci') ((g.upd (at1 r.id) fun n => { n with outs := addI n.outs w.id }).upd (at1 w.id) fun n => { n with ins := addI n.ins r.id }).nodes = NC ρ g.nodes := by
        rw [NC_setI, NC_setO, upd_nodes, upd_nodes]
        exact (NC_upd fun n => ⟨_, _, rfl⟩).trans (NC_upd fun n => ⟨_, _, rfl⟩)
      rw [hNC, upd_nodes, upd_nodes]
      have hA' : (NC ρ g.nodes).Perm (((ρ r.id).b, .cells (r.cells (mvN r (ρ r.id).mi) (.map (some (ρ r.id).mo)) (ρ r.id).sv).toArray 72) :: ((ρ w.id).b, .cells (w.cells (.map (some (ρ w.id).mi)) (mvN w (ρ w.id).mo) (ρ w.id).sv).toArray 72) :: A) := by
        rw [← em, ← ew]; exact hA
      refine List.Perm.symm ((hA'.append (hp2.trans (.swap _ _ _))).trans ?_)
      simp only [List.cons_append, List.nil_append]
      refine (List.Perm.cons _ (List.Perm.cons _ ?_))
      exact List.perm_middle.trans (List.perm_middle.cons _)
end Go.Proofs.Ytomgkmoecbnddaa
