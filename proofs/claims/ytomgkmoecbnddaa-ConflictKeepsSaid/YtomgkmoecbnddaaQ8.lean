/- Conflict: Doomed; facts for Edge's loop. -/
import Derived.Test.YtomgkmoecbnddaaQ7
set_option linter.unusedVariables false
set_option linter.unusedSimpArgs false
set_option linter.unnecessarySimpa false
namespace Go.Proofs.Ytomgkmoecbnddaa
open Go.Sym

theorem doomed_tri {K : Nat} {g : Gr} {M : Mem} (hI : Inv K g M) {tx : Int} : TriQ Try.prog 17 #[.pointer (some ⟨M.p, 0, none⟩), .int .i64 tx] (blks g M) (.bool (g.isDoomed tx)) := by
  have f_mixed := mixed; have f_en30 := en30; have f_fo72_2 := fo72_2; have f_fo72_5 := fo72_5; have f_ty3 := ty3; have f_ty4 := ty4; have f_un_69 : Und Try.prog 69 _ := ⟨Try.underlying69⟩
  have hf := findG_tri hI (tx := tx)
  refine tri_intro (args := [_, _]) Try.func17 rfl Try.ntmps17 rfl (rs := _) rfl rfl fun E R => ?_
  simp only [fr, blks, hblk, gBlk, List.cons_append, List.nil_append, List.append_assoc]
  unfold Gr.isDoomed
  cases h : findL g.nodes tx with
  | none =>
    rw [h] at hf
    simp only [ptrO] at hf
    (refine sr_ ?_; (refine ac_ ?_); refine sn_ ?_; refine sr_ ?_; (refine mv_ ?_); (refine mv_ ?_); (apply so_callq; (exact Ev.func); (focus ((apply EvL.cons; (exact ev_)); (apply EvL.cons; (exact ev_)); exact EvL.nil)); (focus (repeat (first | exact App.nil | apply App.cons))); assumption; exact hf; (exact sel_); exact rfl); (refine asg_ ?_); refine sn_ ?_; refine sr_ ?_; (refine mv_ ?_); (refine se_ (ex_nep_f ev_ .const asm_) ?_); (refine mv_ ?_); (refine sk_ ?_); (refine sk_ ?_); (refine sk_ ?_); (refine sk_ ?_); (refine sk_ ?_); (refine se_ (ex_pick_f ev_ .const) ?_); (refine mv_ ?_); (refine sk_ ?_); (refine sk_ ?_); (refine sk_ ?_); (refine sk_ ?_); (refine se_ (ex_pick_f ev_ .const) ?_); (refine asg_ ?_); refine sn_ ?_; (apply sc_ret); (apply ret_ok; (focus ((apply Res.tmp; (exact ev_)); exact Res.nil)); (exact ⟨rfl, rfl⟩); (exact sel_); (exact appb_)))
  | some n =>
    rw [h] at hf
    simp only [ptrO] at hf
    have hnc := nb_cell (ρ := M.ρ) (findL_some h).1
    simp only [ncell, Nd.cells] at hnc
    simp only [Nd.gone]
    by_cases h0 : n.state = 0
    · rw [decide_eq_true h0, Bool.true_and]
      (refine sr_ ?_; (refine ac_ ?_); refine sn_ ?_; refine sr_ ?_; (refine mv_ ?_); (refine mv_ ?_); (apply so_callq; (exact Ev.func); (focus ((apply EvL.cons; (exact ev_)); (apply EvL.cons; (exact ev_)); exact EvL.nil)); (focus (repeat (first | exact App.nil | apply App.cons))); assumption; exact hf; (exact sel_); exact rfl); (refine asg_ ?_); refine sn_ ?_; refine sr_ ?_; (refine mv_ ?_); (refine se_ (ex_nep_t ev_ .const asm_) ?_); (refine mv_ ?_); (refine wt_ ?_); (refine mv_ ?_); (refine wt_ ?_); (refine se_ (ex_nilCheck ev_) ?_); (refine wt_ ?_); (refine se_ (ex_fieldAddr ev_ asm_) ?_); (refine wt_ ?_); (refine se_ (ex_load1 ev_ asm_ mem_ nth_) ?_); (refine wt_ ?_); (refine se_ (ex_eql_t ev_ .const om_) ?_); (refine se_ (ex_pick_t ev_ ev_) ?_); (refine mv_ ?_); (refine wt_ ?_); (refine mv_ ?_); (refine wt_ ?_); (refine se_ (ex_nilCheck ev_) ?_); (refine wt_ ?_); (refine se_ (ex_fieldAddr ev_ asm_) ?_); (refine wt_ ?_); (refine se_ (ex_load1 ev_ asm_ mem_ nth_) ?_); (refine se_ (ex_pick_t ev_ ev_) ?_); (refine asg_ ?_); refine sn_ ?_; (apply sc_ret); (apply ret_ok; (focus ((apply Res.tmp; (exact ev_)); exact Res.nil)); (exact ⟨rfl, rfl⟩); (exact sel_); (exact appb_)))
    · rw [decide_eq_false h0, Bool.false_and]
      (refine sr_ ?_; (refine ac_ ?_); refine sn_ ?_; refine sr_ ?_; (refine mv_ ?_); (refine mv_ ?_); (apply so_callq; (exact Ev.func); (focus ((apply EvL.cons; (exact ev_)); (apply EvL.cons; (exact ev_)); exact EvL.nil)); (focus (repeat (first | exact App.nil | apply App.cons))); assumption; exact hf; (exact sel_); exact rfl); (refine asg_ ?_); refine sn_ ?_; refine sr_ ?_; (refine mv_ ?_); (refine se_ (ex_nep_t ev_ .const asm_) ?_); (refine mv_ ?_); (refine wt_ ?_); (refine mv_ ?_); (refine wt_ ?_); (refine se_ (ex_nilCheck ev_) ?_); (refine wt_ ?_); (refine se_ (ex_fieldAddr ev_ asm_) ?_); (refine wt_ ?_); (refine se_ (ex_load1 ev_ asm_ mem_ nth_) ?_); (refine wt_ ?_); (refine se_ (ex_eql_f ev_ .const om_) ?_); (refine se_ (ex_pick_t ev_ ev_) ?_); (refine mv_ ?_); (refine sk_ ?_); (refine sk_ ?_); (refine sk_ ?_); (refine sk_ ?_); (refine se_ (ex_pick_f ev_ .const) ?_); (refine asg_ ?_); refine sn_ ?_; (apply sc_ret); (apply ret_ok; (focus ((apply Res.tmp; (exact ev_)); exact Res.nil)); (exact ⟨rfl, rfl⟩); (exact sel_); (exact appb_)))
theorem victL_congr {l l' : List Nd} (h : ∀ k, stt l' k = stt l k) (s : St3) : victL l' s = victL l s := by
  obtain ⟨a, p, b⟩ := s
  unfold victL
  simp only [h]
theorem victL_in {l : List Nd} {s : St3} (hs : s3in l s) {k : Int} (h : victL l s = some k) : ∃ n ∈ l, n.id = k := by
  obtain ⟨a, p, b⟩ := s
  obtain ⟨h1, h2, h3⟩ := hs
  simp only at h1 h2 h3
  unfold victL at h
  dsimp only at h
  split at h
  · cases h; exact h2
  · cases a with
    | none =>
      cases b with
      | none => cases h
      | some y =>
        dsimp only at h
        split at h
        · cases h; exact h3 _ rfl
        · cases h
    | some x =>
      dsimp only at h
      split at h
      · cases h; exact h1 _ rfl
      · cases b with
        | none => cases h
        | some y =>
          dsimp only at h
          split at h
          · cases h; exact h3 _ rfl
          · cases h
theorem intoL_in {K : Nat} {g : Gr} {ρ : Int → Raw} (hI : InvN K g ρ) {a p : Nd} (ha : a ∈ g.nodes) (hp : p ∈ g.nodes) : ∀ s ∈ intoL g.nodes a p, s3in g.nodes s := by
  intro s hs
  unfold intoL at hs
  split at hs
  · cases hs
  · rcases List.mem_append.1 hs with h | h
    · unfold into0 at h
      split at h
      · rw [List.mem_singleton] at h; subst h
        exact ⟨fun x hx => by cases hx; exact ⟨a, ha, rfl⟩, ⟨p, hp, rfl⟩, fun x hx => by cases hx⟩
      · cases h
    · obtain ⟨k, hk, h⟩ := List.mem_filterMap.1 h
      have hk := (sortI_perm _).mem_iff.1 hk
      unfold intoK at h
      split at h
      · cases h
        refine ⟨fun x hx => by cases hx; exact ⟨a, ha, rfl⟩, ⟨p, hp, rfl⟩, fun x hx => ?_⟩
        cases hx
        rcases List.mem_append.1 hp with h2 | h2
        · obtain ⟨m, h3, h4⟩ := (hI.co p h2 k hk).2; exact ⟨m, List.mem_append_left _ h3, h4⟩
        · rw [(hI.em p h2).2] at hk; cases hk
      · cases h
theorem fromL_in {K : Nat} {g : Gr} {ρ : Int → Raw} (hI : InvN K g ρ) {p b : Nd} {asked : Bool} (hp : p ∈ g.nodes) (hb : b ∈ g.nodes) : ∀ s ∈ fromL g.nodes p b asked, s3in g.nodes s := by
  intro s hs
  unfold fromL at hs
  split at hs
  · cases hs
  · rcases List.mem_append.1 hs with h | h
    · unfold from0 at h
      split at h
      · rw [List.mem_singleton] at h; subst h
        exact ⟨fun x hx => by (cases hx), ⟨p, hp, rfl⟩, fun x hx => by cases hx; exact ⟨b, hb, rfl⟩⟩
      · cases h
    · obtain ⟨k, hk, h⟩ := List.mem_filterMap.1 h
      unfold fromK at h
      cases hf : findL g.nodes k with
      | none => rw [hf] at h; cases h
      | some n =>
        rw [hf] at h
        dsimp only at h
        split at h
        · cases h
        · cases h
          obtain ⟨h1, h2⟩ := findL_some hf
          exact ⟨fun x hx => by cases hx; exact ⟨n, h1, h2⟩, ⟨p, hp, rfl⟩, fun x hx => by cases hx; exact ⟨b, hb, rfl⟩⟩
theorem s3in_upd {l : List Nd} {p : Int → Bool} {f : Nd → Nd} (hf : ∀ n, (f n).id = n.id) {s : St3} (h : s3in l s) : s3in (updL l p f) s := by
  have key : ∀ {k : Int}, (∃ n ∈ l, n.id = k) → ∃ n ∈ updL l p f, n.id = k := fun {k} ⟨n, h1, h2⟩ => by
    have : k ∈ (updL l p f).map (·.id) := by rw [updL_ids hf]; exact List.mem_map.2 ⟨n, h1, h2⟩
    obtain ⟨m, h3, h4⟩ := List.mem_map.1 this
    exact ⟨m, h3, h4⟩
  exact ⟨fun x hx => key (h.1 x hx), key h.2.1, fun x hx => key (h.2.2 x hx)⟩
/-- those of a list doomed -/
def Gr.doomV (g : Gr) (vs : List Int) : Gr := g.upd (fun x => vs.contains x) setDm
theorem setDm_id (n : Nd) : (setDm n).id = n.id := rfl
theorem setDm_two (n : Nd) : setDm (setDm n) = setDm n := rfl
theorem doomV_nil (g : Gr) : g.doomV [] = g := by
  unfold Gr.doomV Gr.upd
  rw [updL_out fun _ _ => rfl, updL_out fun _ _ => rfl]
theorem doomV_snoc (g : Gr) (vs : List Int) (k : Int) : (g.doomV vs).upd (at1 k) setDm = g.doomV (vs ++ [k]) := by
  unfold Gr.doomV Gr.upd
  simp only
  rw [updL_two _ _ _ _ setDm_id setDm_two, updL_two _ _ _ _ setDm_id setDm_two]
  have : (fun x => vs.contains x || at1 k x) = fun x => (vs ++ [k]).contains x := by
    funext x
    rw [Bool.eq_iff_iff]
    simp [at1]
  rw [this]
theorem doomV_stt (g : Gr) (vs : List Int) (k : Int) : stt (g.doomV vs).nodes k = stt g.nodes k := by
  unfold Gr.doomV
  rw [upd_nodes]
  exact stt_upd setDm_id (fun _ => rfl) k
theorem doomV_inv {K : Nat} {g : Gr} {ρ : Int → Raw} (hI : InvN K g ρ) (vs : List Int) : InvN K (g.doomV vs) ρ := hI.keep fun n => ⟨_, _, _, _, rfl, Iff.rfl⟩
theorem doomV_NM (g : Gr) (ρ : Int → Raw) (vs : List Int) : NM ρ (g.doomV vs).nodes = NM ρ g.nodes := by
  unfold Gr.doomV
  rw [upd_nodes]
  exact NM_upd setDm_id fun _ => Iff.rfl
theorem s3_nth (ρ : Int → Raw) (junk : List Value) : ∀ {S : List St3} {i : Nat} (h : i < S.length), ∀ j, j < (s3cells ρ S[i]).length → (S.flatMap (s3cells ρ) ++ junk)[0 + i * 3 + j]? = (s3cells ρ S[i])[j]?
  | s :: S, 0, _ => fun j hj => by
    have : j < 3 := hj
    rw [List.flatMap_cons, List.append_assoc, List.getElem?_append_left (by show _ < 3; omega)]
    simp
  | s :: S, i + 1, h => fun j hj => by
    rw [List.flatMap_cons, List.append_assoc, List.getElem?_append_right (by show 3 ≤ _; omega)]
    have := s3_nth ρ junk (S := S) (i := i) (by simpa using h) j hj
    rw [show (0 + (i + 1) * 3 + j - (s3cells ρ s).length) = 0 + i * 3 + j by show 0 + (i + 1) * 3 + j - 3 = _; omega]
    exact this
theorem SlS.form {ρ : Int → Raw} {S : List St3} {v : Value} {B : List Blk} (h : SlS ρ S v B) : ∃ po cap, v = .slice po S.length cap := by
  rcases h with ⟨rfl, rfl, _⟩ | ⟨b, cap, junk, _, rfl, _, _⟩
  · exact ⟨_, _, rfl⟩
  · exact ⟨_, _, rfl⟩
theorem SlS.congr {ρ ρ' : Int → Raw} (h : ∀ k, (ρ' k).b = (ρ k).b) {S : List St3} {v : Value} {B : List Blk} (hs : SlS ρ S v B) : SlS ρ' S v B := by
  have e : ∀ s, s3cells ρ' s = s3cells ρ s := fun s => by
    obtain ⟨a, p, b⟩ := s
    have ho : ∀ o, bO ρ' o = bO ρ o := fun o => by cases o with | none => rfl | some k => exact congrArg some (h k)
    unfold s3cells
    rw [ho, ho, h]
  have e2 : s3cells ρ' = s3cells ρ := funext e
  unfold SlS
  rw [e2]
  exact hs
end Go.Proofs.Ytomgkmoecbnddaa
