/- Conflict: Edge. -/
import Derived.Test.YtomgkmoecbnddaaQ8
set_option linter.unusedVariables false
set_option linter.unusedSimpArgs false
set_option linter.unnecessarySimpa false
namespace Go.Proofs.Ytomgkmoecbnddaa
open Go.Sym

/-- all that a graph may turn into where only its nodes turn -/
def Same (g g' : Gr) (M M' : Mem) : Prop := g'.most = g.most ∧ g'.commits = g.commits ∧ M'.p = M.p ∧ M'.lm = M.lm ∧ M'.em = M.em ∧ M'.esl = M.esl ∧ M'.cl = M.cl ∧ M'.ese = M.ese ∧ M'.ce = M.ce
theorem Same.hblk {g g' : Gr} {M M' : Mem} (h : Same g g' M M') : hblk g' M' = hblk g M := by
  obtain ⟨h1, h2, h3, h4, h5, h6, h7, h8, h9⟩ := h
  unfold Go.Proofs.Ytomgkmoecbnddaa.hblk
  rw [h1, h2, h3, h4, h5, h6, h7, h8, h9]
theorem linkQ_ids (g : Gr) (r w : Nd) : (g.linkQ r w).live.map (·.id) = g.live.map (·.id) ∧ (g.linkQ r w).ended.map (·.id) = g.ended.map (·.id) ∧ (g.linkQ r w).most = g.most ∧ (g.linkQ r w).commits = g.commits := by
  have e : ∀ (l : List Nd) (p : Int → Bool) (f : Nd → Nd), (∀ n, (f n).id = n.id) → (updL l p f).map (·.id) = l.map (·.id) := fun l p f hf => updL_ids hf
  unfold Gr.linkQ Gr.upd
  split
  · exact ⟨e _ _ _ fun _ => rfl, e _ _ _ fun _ => rfl, rfl, rfl⟩
  · split
    · exact ⟨e _ _ _ fun _ => rfl, e _ _ _ fun _ => rfl, rfl, rfl⟩
    · exact ⟨(e _ _ (fun n => { n with ins := addI n.ins r.id }) fun _ => rfl).trans (e _ _ (fun n => { n with outs := addI n.outs w.id }) fun _ => rfl), (e _ _ (fun n => { n with ins := addI n.ins r.id }) fun _ => rfl).trans (e _ _ (fun n => { n with outs := addI n.outs w.id }) fun _ => rfl), rfl, rfl⟩
theorem mlist_ids {ρ ρ' : Int → Raw} (hb : ∀ k, (ρ' k).b = (ρ k).b) {l l' : List Nd} (h : l'.map (·.id) = l.map (·.id)) : mlist ρ' l' = mlist ρ l := by
  have e : ∀ (ρ : Int → Raw) (l : List Nd), mlist ρ l = (l.map (·.id)).map fun k => (k, ptrB (ρ k).b) := fun ρ l => by unfold mlist; rw [List.map_map]; rfl
  rw [e, e, h]
  apply List.map_congr_left
  intro k _
  rw [hb k]
theorem findL_ids {l l' : List Nd} (h : l'.map (·.id) = l.map (·.id)) {k : Int} {n : Nd} (hf : findL l k = some n) : ∃ m, findL l' k = some m := by
  cases hf' : findL l' k with
  | some m => exact ⟨m, rfl⟩
  | none =>
    exfalso
    obtain ⟨h1, h2⟩ := findL_some hf
    have : k ∈ l'.map (·.id) := by rw [h]; exact List.mem_map.2 ⟨n, h1, h2⟩
    obtain ⟨m, h3, h4⟩ := List.mem_map.1 this
    exact findL_none hf' m h3 h4
theorem s3_bound {K : Nat} {g : Gr} {ρ : Int → Raw} (hI : InvN K g ρ) {a p : Nd} (ha : a ∈ g.nodes) (hp : p ∈ g.nodes) : (intoL g.nodes a p).length ≤ 4001 ∧ ∀ asked, (fromL g.nodes a p asked).length ≤ 4001 := by
  have ho : ∀ n ∈ g.nodes, n.outs.length ≤ 4000 := fun n hn => by
    rcases List.mem_append.1 hn with h | h
    · have := (hI.mo n h).keys
      rw [klist_keys] at this
      exact klist_len hI this fun k hk => (hI.co n h k hk).2
    · rw [(hI.em n h).2]; exact Nat.zero_le _
  have hi : ∀ n ∈ g.nodes, n.ins.length ≤ 4000 := fun n hn => by
    rcases List.mem_append.1 hn with h | h
    · have := (hI.mi n h).keys
      rw [klist_keys] at this
      exact klist_len hI this fun k hk => (hI.ci n h k hk).2
    · rw [(hI.em n h).1]; exact Nat.zero_le _
  refine ⟨?_, fun asked => ?_⟩
  · unfold intoL
    split
    · exact Nat.zero_le _
    · have h5 := List.length_filterMap_le (intoK g.nodes a p) (sortI p.outs)
      have h6 : (into0 a p).length ≤ 1 := by unfold into0; split <;> simp
      rw [(sortI_perm _).length_eq] at h5
      have := ho p hp
      rw [List.length_append]; omega
  · unfold fromL
    split
    · exact Nat.zero_le _
    · have h5 := List.length_filterMap_le (fromK g.nodes a p) (sortI a.ins)
      have h6 : (from0 a p).length ≤ 1 := by unfold from0; split <;> simp
      rw [(sortI_perm _).length_eq] at h5
      have := hi a ha
      rw [List.length_append]; omega
theorem take_vs (l : List Nd) (S : List St3) {i : Nat} (h : i < S.length) : (S.take (i + 1)).filterMap (victL l) = (S.take i).filterMap (victL l) ++ (victL l S[i]).toList := by
  rw [List.take_succ_eq_append_getElem h, List.filterMap_append]
  congr 1
theorem SlS.row {ρ : Int → Raw} {S : List St3} {v : Value} {B : List Blk} (h : SlS ρ S v B) : Row 79 3 v (S.flatMap (s3cells ρ)) B := by
  rcases h with ⟨rfl, rfl, rfl⟩ | ⟨b, cap, junk, _, rfl, hj, rfl⟩
  · exact .nil
  · exact .row (s3_len ρ S) hj
theorem SlS.of_row {ρ : Int → Raw} {S : List St3} {v : Value} {B : List Blk} (hne : S ≠ []) (h : Row 79 3 v (S.flatMap (s3cells ρ)) B) (hn : v = .slice none 0 0 → S.flatMap (s3cells ρ) = []) : SlS ρ S v B := by
  have hl := s3_len ρ S
  have hpos : 0 < S.length := List.length_pos_iff.2 hne
  generalize hX : S.flatMap (s3cells ρ) = X at *
  cases h with
  | nil =>
    simp at hl; omega
  | row h1 h2 =>
    rename_i b len cap junk
    have hlen : len = S.length := by omega
    subst hlen
    exact .inr ⟨b, cap, junk, hne, rfl, by rw [hX]; exact h2, by rw [hX]⟩
theorem s3_mem (ρ : Int → Raw) (s : St3) : (s3cells ρ s).all (·.oneCell') = true := by
  obtain ⟨a, p, b⟩ := s
  have ho : ∀ o, (ptrV (bO ρ o)).oneCell' = true := fun o => by cases o <;> rfl
  simp only [s3cells, List.all_cons, List.all_nil, ho, Bool.true_and, Bool.and_true]
  rfl
theorem s3_one (ρ : Int → Raw) (S : List St3) : (S.flatMap (s3cells ρ)).all (·.oneCell') = true := by
  rw [List.all_eq_true]
  intro x hx
  obtain ⟨s, _, h⟩ := List.mem_flatMap.1 hx
  obtain ⟨a, p, b⟩ := s
  have ho : ∀ o, (ptrV (bO ρ o)).oneCell' = true := fun o => by cases o <;> rfl
  simp only [s3cells, List.mem_cons, List.not_mem_nil, or_false] at h
  rcases h with h | h | h
  · rw [h]; exact ho a
  · rw [h]; rfl
  · rw [h]; exact ho b
theorem so_appS {E : Env} {n : Nat} {Q : SPost} {f : Nat → Value} {L R : List Blk} {ops rest : List Oper} {x y : Operand} {ty : TypeId} {pos : String} {after : Array Edge} {d : Nat} {ρ : Int → Raw} {S1 S2 : List St3} {v1 v2 : Value} {B1 B2 : List Blk}
    (hx : Ev f x v1) (hy : Ev f y v2) (h1 : SlS ρ S1 v1 B1) (h2 : SlS ρ S2 v2 B2) (hs : Sel L B1 R) (hm2 : ∀ x ∈ B2, x ∈ L) (hb1 : S1.length ≤ 4001) (hb2 : S2.length ≤ 4001)
    (ht : Und Try.prog 75 (.slice 79)) (hT : tyOf Try.prog 79 = some (true, 3)) (hz : zeroOf Try.prog 79 = some [.pointer none, .pointer none, .pointer none]) (hby : bytesT Try.prog 79 = some 24) (hd : Nat.blt d n = true)
    (h : ∀ v B, SlS ρ (S1 ++ S2) v B → SO Try.prog E n ops Q rest (upd f d v) (B ++ R)) : SO Try.prog E n ops Q (⟨some d, .call ⟨.builtin .append, #[x, y], #[75, 75]⟩, ty, pos, after, none⟩ :: rest) f L := by
  have hr := h1.row
  rcases h2 with ⟨rfl, rfl, rfl⟩ | ⟨b2, cap2, junk2, hne, rfl, hj, rfl⟩
  · rw [List.append_nil] at h
    have hc : ∃ po len cap, v1 = .slice po len cap ∧ len ≤ cap := by
      rcases h1 with ⟨_, rfl, _⟩ | ⟨b, cap, junk, _, rfl, hj, _⟩
      · exact ⟨_, _, _, rfl, Nat.le_refl _⟩
      · refine ⟨_, _, _, rfl, ?_⟩
        rw [List.length_append, s3_len] at hj; omega
    obtain ⟨po, len, cap, rfl, hle⟩ := hc
    exact so_ex (ex_append_nil hx hy ht hT hle) hd (so_perm hs.perm (h _ _ h1))
  · have hc : ∃ po len cap, v1 = .slice po len cap ∧ len ≤ 4001 := by
      rcases h1 with ⟨_, rfl, _⟩ | ⟨b, cap, junk, _, rfl, hj, _⟩
      · exact ⟨_, _, _, rfl, by omega⟩
      · exact ⟨_, _, _, rfl, hb1⟩
    obtain ⟨po, len, cap, rfl, hle⟩ := hc
    refine so_append (ys := S2.flatMap (s3cells ρ)) hx hy hr hs (hm2 _ (List.mem_cons_self ..)) (s3_len ρ S2) (fun j hj => ?_) ht hT hz rfl hby (by omega) (by omega) rfl (s3_one ρ S2) hd fun v' H' hr' hn' => ?_
    · rw [Nat.zero_add, List.getElem?_append_left hj]
    · have e : (S1 ++ S2).flatMap (s3cells ρ) = S1.flatMap (s3cells ρ) ++ S2.flatMap (s3cells ρ) := List.flatMap_append ..
      rw [← e] at hr' hn'
      exact h v' H' (SlS.of_row (by simp [hne]) hr' hn')
/-- what Edge answers -/
def Gr.edgeR (g : Gr) (reader writer acts : Int) : Int :=
  match findL g.nodes reader, findL g.nodes writer with
  | some r, some w => if noEdge r w then 0 else if (g.edgeG reader writer).isDoomed acts then 43 else 0
  | _, _ => 0
theorem edge_tri {K : Nat} {g : Gr} {M : Mem} (hI : Inv K g M) {reader writer acts : Int} :
    Tri Try.prog 13 #[.pointer (some ⟨M.p, 0, none⟩), .int .i64 reader, .int .i64 writer, .int .i64 acts] (blks g M)
      fun v L => v = .int .i64 (g.edgeR reader writer acts) ∧ ∃ M', L = blks (g.edgeG reader writer) M' ∧ Inv K (g.edgeG reader writer) M' ∧ Same g (g.edgeG reader writer) M M' := by
  have f_mixed := mixed; have f_by79 := by79; have f_en17 := en17; have f_en30 := en30; have f_en32 := en32; have f_en33 := en33; have f_en34 := en34; have f_en35 := en35; have f_fo72_1 := fo72_1; have f_fo72_2 := fo72_2; have f_fo72_3 := fo72_3; have f_fo72_5 := fo72_5; have f_ty3 := ty3; have f_ty4 := ty4; have f_ty75 := ty75; have f_ty79 := ty79; have f_un_69 : Und Try.prog 69 _ := ⟨Try.underlying69⟩; have f_un_75 : Und Try.prog 75 _ := ⟨Try.underlying75⟩; have f_zero79 := zero79; have f_zv79 := zv79
  have f_ty72 : tyOf Try.prog 72 = some (true, 11) := by kernel_rfl
  refine tri_nd fun hd => ?_
  have hdC : ((NC M.ρ g.nodes).map (·.1)).Nodup := by
    unfold blks at hd
    rw [List.map_append, List.nodup_append, List.map_append, List.nodup_append] at hd
    exact hd.2.1.1
  have hf1 := findG_tri hI (tx := reader)
  have hf2 := findG_tri hI (tx := writer)
  refine tri_intro (args := [_, _, _, _]) Try.func13 rfl Try.ntmps13 rfl (rs := _) rfl rfl fun E R => ?_
  simp only [fr, blks, hblk, gBlk, List.cons_append, List.nil_append, List.append_assoc]
  cases h1 : findL g.nodes reader with
  | none =>
    have e1 : g.edgeG reader writer = g := by unfold Gr.edgeG; rw [h1]
    have e2 : g.edgeR reader writer acts = 0 := by unfold Gr.edgeR; rw [h1]
    rw [e1, e2]
    rw [h1] at hf1
    simp only [ptrO] at hf1
    cases h2 : findL g.nodes writer with
    | none =>
      rw [h2] at hf2
      simp only [ptrO] at hf2
      (refine sr_ ?_; (refine ac_ ?_); refine sn_ ?_; refine sr_ ?_; (refine mv_ ?_); (refine mv_ ?_); (apply so_callq; (exact Ev.func); (focus ((apply EvL.cons; (exact ev_)); (apply EvL.cons; (exact ev_)); exact EvL.nil)); (focus (repeat (first | exact App.nil | apply App.cons))); assumption; exact hf1; (exact sel_); exact rfl); (refine mv_ ?_); (refine mv_ ?_); (apply so_callq; (exact Ev.func); (focus ((apply EvL.cons; (exact ev_)); (apply EvL.cons; (exact ev_)); exact EvL.nil)); (focus (repeat (first | exact App.nil | apply App.cons))); assumption; exact hf2; (exact sel_); exact rfl); (refine asg_ ?_); (refine asg_ ?_); refine sn_ ?_; (apply sc_seq); (apply sc_seq); (apply sc_quiet (id := 2); assumption; kernel_rfl); (refine qe_ (ex_move ev_) ?_); (refine qe_ (ex_eqp_t ev_ .const asm_) ?_); (refine qe_ (ex_move ev_) ?_); (refine qs_ ?_); (refine qs_ ?_); (refine qe_ (ex_pick_t ev_ .const) ?_); (refine qe_ (ex_move ev_) ?_); (refine qs_ ?_); (refine qs_ ?_); (refine qs_ ?_); (refine qe_ (ex_pick_t ev_ .const) ?_); (refine qe_ (ex_move ev_) ?_); (refine qs_ ?_); (refine qs_ ?_); (refine qs_ ?_); (refine qs_ ?_); (refine qs_ ?_); (refine qs_ ?_); (refine qu_ ?_); (refine qu_ ?_); (refine qu_ ?_); (refine qu_ ?_); (refine qu_ ?_); (refine qs_ ?_); (refine qe_ (ex_pick_t ev_ .const) ?_); (refine qe_ (ex_move ev_) ?_); (refine qs_ ?_); (refine qs_ ?_); (refine qs_ ?_); (refine qs_ ?_); (refine qs_ ?_); (refine qs_ ?_); (refine qu_ ?_); (refine qu_ ?_); (refine qu_ ?_); (refine qu_ ?_); (refine qu_ ?_); (refine qu_ ?_); (refine qu_ ?_); (refine qu_ ?_); (refine qu_ ?_); (refine qs_ ?_); (refine qe_ (ex_pick_t ev_ .const) ?_); (refine qe_ (ex_move ev_) ?_); (refine qs_ ?_); (refine qs_ ?_); (refine qs_ ?_); (refine qs_ ?_); (refine qs_ ?_); (refine qs_ ?_); (refine qu_ ?_); (refine qu_ ?_); (refine qu_ ?_); (refine qu_ ?_); (refine qu_ ?_); (refine qu_ ?_); (refine qu_ ?_); (refine qu_ ?_); (refine qu_ ?_); (refine qs_ ?_); (refine qe_ (ex_pick_t ev_ .const) ?_); (apply sq_nil); (apply nm_then); (refine ct_ ?_); refine sr_ ?_; (refine ac_ ?_); refine sn_ ?_; (apply sc_ret); (apply rt_then); (apply ret_ok; (focus ((apply Res.tmp; (exact ev_)); exact Res.nil)); (exact ⟨rfl, M, rfl, hI, rfl, rfl, rfl, rfl, rfl, rfl, rfl, rfl, rfl⟩); (exact sel_); (exact appb_)))
    | some w =>
      rw [h2] at hf2
      simp only [ptrO] at hf2
      (refine sr_ ?_; (refine ac_ ?_); refine sn_ ?_; refine sr_ ?_; (refine mv_ ?_); (refine mv_ ?_); (apply so_callq; (exact Ev.func); (focus ((apply EvL.cons; (exact ev_)); (apply EvL.cons; (exact ev_)); exact EvL.nil)); (focus (repeat (first | exact App.nil | apply App.cons))); assumption; exact hf1; (exact sel_); exact rfl); (refine mv_ ?_); (refine mv_ ?_); (apply so_callq; (exact Ev.func); (focus ((apply EvL.cons; (exact ev_)); (apply EvL.cons; (exact ev_)); exact EvL.nil)); (focus (repeat (first | exact App.nil | apply App.cons))); assumption; exact hf2; (exact sel_); exact rfl); (refine asg_ ?_); (refine asg_ ?_); refine sn_ ?_; (apply sc_seq); (apply sc_seq); (apply sc_quiet (id := 2); assumption; kernel_rfl); (refine qe_ (ex_move ev_) ?_); (refine qe_ (ex_eqp_t ev_ .const asm_) ?_); (refine qe_ (ex_move ev_) ?_); (refine qs_ ?_); (refine qs_ ?_); (refine qe_ (ex_pick_t ev_ .const) ?_); (refine qe_ (ex_move ev_) ?_); (refine qs_ ?_); (refine qs_ ?_); (refine qs_ ?_); (refine qe_ (ex_pick_t ev_ .const) ?_); (refine qe_ (ex_move ev_) ?_); (refine qs_ ?_); (refine qs_ ?_); (refine qs_ ?_); (refine qs_ ?_); (refine qs_ ?_); (refine qs_ ?_); (refine qu_ ?_); (refine qu_ ?_); (refine qu_ ?_); (refine qu_ ?_); (refine qu_ ?_); (refine qs_ ?_); (refine qe_ (ex_pick_t ev_ .const) ?_); (refine qe_ (ex_move ev_) ?_); (refine qs_ ?_); (refine qs_ ?_); (refine qs_ ?_); (refine qs_ ?_); (refine qs_ ?_); (refine qs_ ?_); (refine qu_ ?_); (refine qu_ ?_); (refine qu_ ?_); (refine qu_ ?_); (refine qu_ ?_); (refine qu_ ?_); (refine qu_ ?_); (refine qu_ ?_); (refine qu_ ?_); (refine qs_ ?_); (refine qe_ (ex_pick_t ev_ .const) ?_); (refine qe_ (ex_move ev_) ?_); (refine qs_ ?_); (refine qs_ ?_); (refine qs_ ?_); (refine qs_ ?_); (refine qs_ ?_); (refine qs_ ?_); (refine qu_ ?_); (refine qu_ ?_); (refine qu_ ?_); (refine qu_ ?_); (refine qu_ ?_); (refine qu_ ?_); (refine qu_ ?_); (refine qu_ ?_); (refine qu_ ?_); (refine qs_ ?_); (refine qe_ (ex_pick_t ev_ .const) ?_); (apply sq_nil); (apply nm_then); (refine ct_ ?_); refine sr_ ?_; (refine ac_ ?_); refine sn_ ?_; (apply sc_ret); (apply rt_then); (apply ret_ok; (focus ((apply Res.tmp; (exact ev_)); exact Res.nil)); (exact ⟨rfl, M, rfl, hI, rfl, rfl, rfl, rfl, rfl, rfl, rfl, rfl, rfl⟩); (exact sel_); (exact appb_)))
  | some r =>
    rw [h1] at hf1
    simp only [ptrO] at hf1
    obtain ⟨hr, hrid⟩ := findL_some h1
    cases h2 : findL g.nodes writer with
    | none =>
      have e1 : g.edgeG reader writer = g := by unfold Gr.edgeG; rw [h1, h2]
      have e2 : g.edgeR reader writer acts = 0 := by unfold Gr.edgeR; rw [h1, h2]
      rw [e1, e2]
      rw [h2] at hf2
      simp only [ptrO] at hf2
      (refine sr_ ?_; (refine ac_ ?_); refine sn_ ?_; refine sr_ ?_; (refine mv_ ?_); (refine mv_ ?_); (apply so_callq; (exact Ev.func); (focus ((apply EvL.cons; (exact ev_)); (apply EvL.cons; (exact ev_)); exact EvL.nil)); (focus (repeat (first | exact App.nil | apply App.cons))); assumption; exact hf1; (exact sel_); exact rfl); (refine mv_ ?_); (refine mv_ ?_); (apply so_callq; (exact Ev.func); (focus ((apply EvL.cons; (exact ev_)); (apply EvL.cons; (exact ev_)); exact EvL.nil)); (focus (repeat (first | exact App.nil | apply App.cons))); assumption; exact hf2; (exact sel_); exact rfl); (refine asg_ ?_); (refine asg_ ?_); refine sn_ ?_; (apply sc_seq); (apply sc_seq); (apply sc_quiet (id := 2); assumption; kernel_rfl); (refine qe_ (ex_move ev_) ?_); (refine qe_ (ex_eqp_f ev_ .const asm_) ?_); (refine qe_ (ex_move ev_) ?_); (refine qw_ ?_); (refine qe_ (ex_move ev_) ?_); (refine qw_ ?_); (refine qe_ (ex_eqp_t ev_ .const asm_) ?_); (refine qe_ (ex_pick_f ev_ ev_) ?_); (refine qe_ (ex_move ev_) ?_); (refine qs_ ?_); (refine qs_ ?_); (refine qs_ ?_); (refine qe_ (ex_pick_t ev_ .const) ?_); (refine qe_ (ex_move ev_) ?_); (refine qs_ ?_); (refine qs_ ?_); (refine qs_ ?_); (refine qs_ ?_); (refine qs_ ?_); (refine qs_ ?_); (refine qu_ ?_); (refine qu_ ?_); (refine qu_ ?_); (refine qu_ ?_); (refine qu_ ?_); (refine qs_ ?_); (refine qe_ (ex_pick_t ev_ .const) ?_); (refine qe_ (ex_move ev_) ?_); (refine qs_ ?_); (refine qs_ ?_); (refine qs_ ?_); (refine qs_ ?_); (refine qs_ ?_); (refine qs_ ?_); (refine qu_ ?_); (refine qu_ ?_); (refine qu_ ?_); (refine qu_ ?_); (refine qu_ ?_); (refine qu_ ?_); (refine qu_ ?_); (refine qu_ ?_); (refine qu_ ?_); (refine qs_ ?_); (refine qe_ (ex_pick_t ev_ .const) ?_); (refine qe_ (ex_move ev_) ?_); (refine qs_ ?_); (refine qs_ ?_); (refine qs_ ?_); (refine qs_ ?_); (refine qs_ ?_); (refine qs_ ?_); (refine qu_ ?_); (refine qu_ ?_); (refine qu_ ?_); (refine qu_ ?_); (refine qu_ ?_); (refine qu_ ?_); (refine qu_ ?_); (refine qu_ ?_); (refine qu_ ?_); (refine qs_ ?_); (refine qe_ (ex_pick_t ev_ .const) ?_); (apply sq_nil); (apply nm_then); (refine ct_ ?_); refine sr_ ?_; (refine ac_ ?_); refine sn_ ?_; (apply sc_ret); (apply rt_then); (apply ret_ok; (focus ((apply Res.tmp; (exact ev_)); exact Res.nil)); (exact ⟨rfl, M, rfl, hI, rfl, rfl, rfl, rfl, rfl, rfl, rfl, rfl, rfl⟩); (exact sel_); (exact appb_)))
    | some w =>
      rw [h2] at hf2
      simp only [ptrO] at hf2
      obtain ⟨hw, hwid⟩ := findL_some h2
      have hrc := nb_cell (ρ := M.ρ) hr
      have hwc := nb_cell (ρ := M.ρ) hw
      simp only [ncell, Nd.cells] at hrc hwc
      have hid : ∀ x ∈ g.nodes, ∀ y ∈ g.nodes, x.id = y.id → x = y := fun x hx y hy he => by
        have h3 := findL_mem hI.n.nd hx; have h4 := findL_mem hI.n.nd hy
        rw [he] at h3; exact Option.some.inj (h3.symm.trans h4)
      ((apply sc_seq); ((fail_if_success (apply sc_region (id := 2))); apply sc_region); (refine ac_ ?_); refine sn_ ?_; (apply sc_seq); ((fail_if_success (apply sc_region (id := 2))); apply sc_region); (refine mv_ ?_); (refine mv_ ?_); (apply so_callq; (exact Ev.func); (focus ((apply EvL.cons; (exact ev_)); (apply EvL.cons; (exact ev_)); exact EvL.nil)); (focus (repeat (first | exact App.nil | apply App.cons))); assumption; exact hf1; (exact sel_); exact rfl); (refine mv_ ?_); (refine mv_ ?_); (apply so_callq; (exact Ev.func); (focus ((apply EvL.cons; (exact ev_)); (apply EvL.cons; (exact ev_)); exact EvL.nil)); (focus (repeat (first | exact App.nil | apply App.cons))); assumption; exact hf2; (exact sel_); exact rfl); (refine asg_ ?_); (refine asg_ ?_); refine sn_ ?_; (apply sc_seq); (apply sc_seq))
      refine SC.mono (Q := fun u f L => u = .normal ∧ (∃ c, (c = decide (noEdge r w)) ∧ At f 80 (.bool c)) ∧ At f 0 (.pointer (some ⟨M.p, 0, none⟩)) ∧ At f 3 (.int .i64 acts) ∧ At f 9 (.pointer (some ⟨(M.ρ r.id).b, 0, none⟩)) ∧ At f 10 (.pointer (some ⟨(M.ρ w.id).b, 0, none⟩)) ∧
        L = (M.p, .cells [Value.int .i64 g.most, .int .i64 g.commits, .map (some M.lm), .map (some M.em)].toArray 66) :: (M.lm, .map M.esl M.cl) :: (M.em, .map M.ese M.ce) :: (NC M.ρ g.nodes ++ (NM M.ρ g.nodes ++ R))) ?_ ?_
      · by_cases hrw : r.id = w.id
        · obtain rfl := hid r hr w hw hrw
          ((apply sc_quiet (id := 2); assumption; kernel_rfl); (refine qe_ (ex_move ev_) ?_); (refine qe_ (ex_eqp_f ev_ .const asm_) ?_); (refine qe_ (ex_move ev_) ?_); (refine qw_ ?_); (refine qe_ (ex_move ev_) ?_); (refine qw_ ?_); (refine qe_ (ex_eqp_f ev_ .const asm_) ?_); (refine qe_ (ex_pick_f ev_ ev_) ?_); (refine qe_ (ex_move ev_) ?_); (refine qw_ ?_); (refine qe_ (ex_move ev_) ?_); (refine qw_ ?_); (refine qe_ (ex_move ev_) ?_); (refine qw_ ?_); (apply sq_ex; (apply ex_eqpp_t; (exact ev_); (exact ev_); assumption; assumption; exact rfl); exact rfl); (refine qe_ (ex_pick_f ev_ ev_) ?_); (refine qe_ (ex_move ev_) ?_); (refine qs_ ?_); (refine qs_ ?_); (refine qs_ ?_); (refine qs_ ?_); (refine qs_ ?_); (refine qs_ ?_); (refine qu_ ?_); (refine qu_ ?_); (refine qu_ ?_); (refine qu_ ?_); (refine qu_ ?_); (refine qs_ ?_); (refine qe_ (ex_pick_t ev_ .const) ?_); (refine qe_ (ex_move ev_) ?_); (refine qs_ ?_); (refine qs_ ?_); (refine qs_ ?_); (refine qs_ ?_); (refine qs_ ?_); (refine qs_ ?_); (refine qu_ ?_); (refine qu_ ?_); (refine qu_ ?_); (refine qu_ ?_); (refine qu_ ?_); (refine qu_ ?_); (refine qu_ ?_); (refine qu_ ?_); (refine qu_ ?_); (refine qs_ ?_); (refine qe_ (ex_pick_t ev_ .const) ?_); (refine qe_ (ex_move ev_) ?_); (refine qs_ ?_); (refine qs_ ?_); (refine qs_ ?_); (refine qs_ ?_); (refine qs_ ?_); (refine qs_ ?_); (refine qu_ ?_); (refine qu_ ?_); (refine qu_ ?_); (refine qu_ ?_); (refine qu_ ?_); (refine qu_ ?_); (refine qu_ ?_); (refine qu_ ?_); (refine qu_ ?_); (refine qs_ ?_); (refine qe_ (ex_pick_t ev_ .const) ?_); (apply sq_nil); (apply And.intro rfl; refine ⟨⟨_, ?_, at_⟩, at_, at_, at_, at_, rfl⟩; (focus (first | exact (decide_eq_false (by unfold noEdge; omega)).symm | exact (decide_eq_true (by unfold noEdge; omega)).symm))))
        · have hbne : (M.ρ r.id).b ≠ (M.ρ w.id).b := fun e => hrw (congrArg Nd.id (nb_inj hdC hr hw e))
          ((apply sc_quiet (id := 2); assumption; kernel_rfl); (refine qe_ (ex_move ev_) ?_); (refine qe_ (ex_eqp_f ev_ .const asm_) ?_); (refine qe_ (ex_move ev_) ?_); (refine qw_ ?_); (refine qe_ (ex_move ev_) ?_); (refine qw_ ?_); (refine qe_ (ex_eqp_f ev_ .const asm_) ?_); (refine qe_ (ex_pick_f ev_ ev_) ?_); (refine qe_ (ex_move ev_) ?_); (refine qw_ ?_); (refine qe_ (ex_move ev_) ?_); (refine qw_ ?_); (refine qe_ (ex_move ev_) ?_); (refine qw_ ?_); (apply sq_ex; (apply ex_eqpp_f; (exact ev_); (exact ev_); assumption; assumption; exact rfl; exact hbne; (exact mem_); (exact mem_)); exact rfl); (refine qe_ (ex_pick_f ev_ ev_) ?_); (refine qe_ (ex_move ev_) ?_); (refine qw_ ?_); (refine qe_ (ex_move ev_) ?_); (refine qw_ ?_); (refine qe_ (ex_nilCheck ev_) ?_); (refine qw_ ?_); (refine qe_ (ex_fieldAddr ev_ asm_) ?_); (refine qw_ ?_); (refine qe_ (ex_load1 ev_ asm_ mem_ nth_) ?_); (refine qw_ ?_); (apply sq_split; (apply ex_eql; (exact ev_); ((exact Ev.const))); exact rfl; refine ⟨fun _ => ?_, fun _ => ?_⟩); (refine qw_ ?_); (refine qe_ (ex_move ev_) ?_); (refine qw_ ?_); (refine qe_ (ex_move ev_) ?_); (refine qw_ ?_); (refine qe_ (ex_nilCheck ev_) ?_); (refine qw_ ?_); (refine qe_ (ex_fieldAddr ev_ asm_) ?_); (refine qw_ ?_); (refine qe_ (ex_load1 ev_ asm_ mem_ nth_) ?_); (refine qw_ ?_); (apply sq_split; (apply ex_eql; (exact ev_); ((exact Ev.const))); exact rfl; refine ⟨fun _ => ?_, fun _ => ?_⟩); (refine qw_ ?_); (refine qe_ (ex_pick_t ev_ ev_) ?_); (refine qe_ (ex_pick_f ev_ ev_) ?_); (refine qe_ (ex_move ev_) ?_); (refine qs_ ?_); (refine qs_ ?_); (refine qs_ ?_); (refine qs_ ?_); (refine qs_ ?_); (refine qs_ ?_); (refine qu_ ?_); (refine qu_ ?_); (refine qu_ ?_); (refine qu_ ?_); (refine qu_ ?_); (refine qu_ ?_); (refine qu_ ?_); (refine qu_ ?_); (refine qu_ ?_); (refine qs_ ?_); (refine qe_ (ex_pick_t ev_ .const) ?_); (refine qe_ (ex_move ev_) ?_); (refine qs_ ?_); (refine qs_ ?_); (refine qs_ ?_); (refine qs_ ?_); (refine qs_ ?_); (refine qs_ ?_); (refine qu_ ?_); (refine qu_ ?_); (refine qu_ ?_); (refine qu_ ?_); (refine qu_ ?_); (refine qu_ ?_); (refine qu_ ?_); (refine qu_ ?_); (refine qu_ ?_); (refine qs_ ?_); (refine qe_ (ex_pick_t ev_ .const) ?_); (apply sq_nil); (apply And.intro rfl; refine ⟨⟨_, ?_, at_⟩, at_, at_, at_, at_, rfl⟩; (focus (first | exact (decide_eq_false (by unfold noEdge; omega)).symm | exact (decide_eq_true (by unfold noEdge; omega)).symm))); (refine qw_ ?_); (refine qe_ (ex_pick_t ev_ ev_) ?_); (refine qe_ (ex_pick_f ev_ ev_) ?_); (refine qe_ (ex_move ev_) ?_); (refine qw_ ?_); (refine qe_ (ex_move ev_) ?_); (refine qw_ ?_); (refine qe_ (ex_nilCheck ev_) ?_); (refine qw_ ?_); (refine qe_ (ex_fieldAddr ev_ asm_) ?_); (refine qw_ ?_); (refine qe_ (ex_load1 ev_ asm_ mem_ nth_) ?_); (refine qw_ ?_); (refine qe_ (ex_eql_t ev_ .const om_) ?_); (refine qw_ ?_); (refine qe_ (ex_move ev_) ?_); (refine qw_ ?_); (refine qe_ (ex_move ev_) ?_); (refine qw_ ?_); (refine qe_ (ex_nilCheck ev_) ?_); (refine qw_ ?_); (refine qe_ (ex_fieldAddr ev_ asm_) ?_); (refine qw_ ?_); (refine qe_ (ex_load1 ev_ asm_ mem_ nth_) ?_); (refine qw_ ?_); (refine qe_ (ex_move ev_) ?_); (refine qw_ ?_); (refine qe_ (ex_nilCheck ev_) ?_); (refine qw_ ?_); (refine qe_ (ex_fieldAddr ev_ asm_) ?_); (refine qw_ ?_); (refine qe_ (ex_load1 ev_ asm_ mem_ nth_) ?_); (refine qw_ ?_); (apply sq_split; (apply ex_leq; (exact ev_); (exact ev_)); exact rfl; refine ⟨fun _ => ?_, fun _ => ?_⟩); (refine qw_ ?_); (refine qe_ (ex_pick_t ev_ ev_) ?_); (refine qe_ (ex_pick_f ev_ ev_) ?_); (refine qe_ (ex_move ev_) ?_); (refine qs_ ?_); (refine qs_ ?_); (refine qs_ ?_); (refine qs_ ?_); (refine qs_ ?_); (refine qs_ ?_); (refine qu_ ?_); (refine qu_ ?_); (refine qu_ ?_); (refine qu_ ?_); (refine qu_ ?_); (refine qu_ ?_); (refine qu_ ?_); (refine qu_ ?_); (refine qu_ ?_); (refine qs_ ?_); (refine qe_ (ex_pick_t ev_ .const) ?_); (apply sq_nil); (apply And.intro rfl; refine ⟨⟨_, ?_, at_⟩, at_, at_, at_, at_, rfl⟩; (focus (first | exact (decide_eq_false (by unfold noEdge; omega)).symm | exact (decide_eq_true (by unfold noEdge; omega)).symm))); (refine qw_ ?_); (refine qe_ (ex_pick_t ev_ ev_) ?_); (refine qe_ (ex_pick_f ev_ ev_) ?_); (refine qe_ (ex_move ev_) ?_); (refine qw_ ?_); (refine qe_ (ex_move ev_) ?_); (refine qw_ ?_); (refine qe_ (ex_nilCheck ev_) ?_); (refine qw_ ?_); (refine qe_ (ex_fieldAddr ev_ asm_) ?_); (refine qw_ ?_); (refine qe_ (ex_load1 ev_ asm_ mem_ nth_) ?_); (refine qw_ ?_); (refine qe_ (ex_eql_f ev_ .const om_) ?_); (refine qw_ ?_); (refine qe_ (ex_move ev_) ?_); (refine qs_ ?_); (refine qs_ ?_); (refine qs_ ?_); (refine qs_ ?_); (refine qs_ ?_); (refine qs_ ?_); (refine qs_ ?_); (refine qs_ ?_); (refine qs_ ?_); (refine qw_ ?_); (refine qe_ (ex_pick_f ev_ .const) ?_); (refine qe_ (ex_pick_f ev_ ev_) ?_); (apply sq_nil); (apply And.intro rfl; refine ⟨⟨_, ?_, at_⟩, at_, at_, at_, at_, rfl⟩; (focus (first | exact (decide_eq_false (by unfold noEdge; omega)).symm | exact (decide_eq_true (by unfold noEdge; omega)).symm))); (refine qw_ ?_); (refine qe_ (ex_move ev_) ?_); (refine qs_ ?_); (refine qs_ ?_); (refine qs_ ?_); (refine qs_ ?_); (refine qs_ ?_); (refine qw_ ?_); (refine qe_ (ex_pick_f ev_ .const) ?_); (refine qe_ (ex_pick_f ev_ ev_) ?_); (refine qe_ (ex_move ev_) ?_); (refine qw_ ?_); (refine qe_ (ex_move ev_) ?_); (refine qw_ ?_); (refine qe_ (ex_nilCheck ev_) ?_); (refine qw_ ?_); (refine qe_ (ex_fieldAddr ev_ asm_) ?_); (refine qw_ ?_); (refine qe_ (ex_load1 ev_ asm_ mem_ nth_) ?_); (refine qw_ ?_); (refine qe_ (ex_eql_f ev_ .const om_) ?_); (refine qw_ ?_); (refine qe_ (ex_move ev_) ?_); (refine qs_ ?_); (refine qs_ ?_); (refine qs_ ?_); (refine qs_ ?_); (refine qs_ ?_); (refine qs_ ?_); (refine qs_ ?_); (refine qs_ ?_); (refine qs_ ?_); (refine qw_ ?_); (refine qe_ (ex_pick_f ev_ .const) ?_); (refine qe_ (ex_pick_f ev_ ev_) ?_); (refine qe_ (ex_move ev_) ?_); (refine qw_ ?_); (refine qe_ (ex_move ev_) ?_); (refine qw_ ?_); (refine qe_ (ex_nilCheck ev_) ?_); (refine qw_ ?_); (refine qe_ (ex_fieldAddr ev_ asm_) ?_); (refine qw_ ?_); (refine qe_ (ex_load1 ev_ asm_ mem_ nth_) ?_); (refine qw_ ?_); (apply sq_split; (apply ex_eql; (exact ev_); ((exact Ev.const))); exact rfl; refine ⟨fun _ => ?_, fun _ => ?_⟩); (refine qw_ ?_); (refine qe_ (ex_move ev_) ?_); (refine qw_ ?_); (refine qe_ (ex_move ev_) ?_); (refine qw_ ?_); (refine qe_ (ex_nilCheck ev_) ?_); (refine qw_ ?_); (refine qe_ (ex_fieldAddr ev_ asm_) ?_); (refine qw_ ?_); (refine qe_ (ex_load1 ev_ asm_ mem_ nth_) ?_); (refine qw_ ?_); (refine qe_ (ex_move ev_) ?_); (refine qw_ ?_); (refine qe_ (ex_nilCheck ev_) ?_); (refine qw_ ?_); (refine qe_ (ex_fieldAddr ev_ asm_) ?_); (refine qw_ ?_); (refine qe_ (ex_load1 ev_ asm_ mem_ nth_) ?_); (refine qw_ ?_); (apply sq_split; (apply ex_leq; (exact ev_); (exact ev_)); exact rfl; refine ⟨fun _ => ?_, fun _ => ?_⟩); (refine qw_ ?_); (refine qe_ (ex_pick_t ev_ ev_) ?_); (refine qe_ (ex_pick_f ev_ ev_) ?_); (apply sq_nil); (apply And.intro rfl; refine ⟨⟨_, ?_, at_⟩, at_, at_, at_, at_, rfl⟩; (focus (first | exact (decide_eq_false (by unfold noEdge; omega)).symm | exact (decide_eq_true (by unfold noEdge; omega)).symm))); (refine qw_ ?_); (refine qe_ (ex_pick_t ev_ ev_) ?_); (refine qe_ (ex_pick_f ev_ ev_) ?_); (apply sq_nil); (apply And.intro rfl; refine ⟨⟨_, ?_, at_⟩, at_, at_, at_, at_, rfl⟩; (focus (first | exact (decide_eq_false (by unfold noEdge; omega)).symm | exact (decide_eq_true (by unfold noEdge; omega)).symm))); (refine qw_ ?_); (refine qe_ (ex_move ev_) ?_); (refine qs_ ?_); (refine qs_ ?_); (refine qs_ ?_); (refine qs_ ?_); (refine qs_ ?_); (refine qs_ ?_); (refine qs_ ?_); (refine qs_ ?_); (refine qs_ ?_); (refine qw_ ?_); (refine qe_ (ex_pick_f ev_ .const) ?_); (refine qe_ (ex_pick_f ev_ ev_) ?_); (apply sq_nil); (apply And.intro rfl; refine ⟨⟨_, ?_, at_⟩, at_, at_, at_, at_, rfl⟩; (focus (first | exact (decide_eq_false (by unfold noEdge; omega)).symm | exact (decide_eq_true (by unfold noEdge; omega)).symm))))
      rintro u f L ⟨rfl, ⟨c, hc, a80⟩, a0, a3, a9, a10, rfl⟩
      apply nm_then
      by_cases hno : noEdge r w
      · rw [decide_eq_true hno] at hc
        subst hc
        have e1 : g.edgeG reader writer = g := by unfold Gr.edgeG; rw [h1, h2]; dsimp only; rw [if_pos hno]
        have e2 : g.edgeR reader writer acts = 0 := by unfold Gr.edgeR; rw [h1, h2]; dsimp only; rw [if_pos hno]
        rw [e1, e2]
        ((refine ct_ ?_); refine sr_ ?_; (refine ac_ ?_); refine sn_ ?_; (apply sc_ret); (apply rt_then); (apply ret_ok; (focus ((apply Res.tmp; (exact ev_)); exact Res.nil)); (exact ⟨rfl, M, rfl, hI, rfl, rfl, rfl, rfl, rfl, rfl, rfl, rfl, rfl⟩); (exact sel_); (exact appb_)))
      · rw [decide_eq_false hno] at hc
        subst hc
        have hne : r.id ≠ w.id := fun e => hno (.inl e)
        have hn2 : ¬ (r.state = 2 ∧ w.state = 2) := fun e => hno (.inr (.inl e))
        have hlk := link_tri hI.n (gp := .pointer (some ⟨M.p, 0, none⟩)) hr hw hne hn2
        ((refine cf_ ?_); (apply sc_skip); (apply nm_then); refine sr_ ?_; (refine mv_ ?_); (refine mv_ ?_); (refine mv_ ?_))
        (apply so_call; (exact Ev.func); (focus ((apply EvL.cons; (exact ev_)); (apply EvL.cons; (exact ev_)); (apply EvL.cons; (exact ev_)); exact EvL.nil)); (focus (repeat (first | exact App.nil | apply App.cons))); assumption; (exact hlk); (exact sel_); exact rfl)
        rintro v L ⟨rfl, ρ', rfl, hI1, hb1⟩
        simp only [List.append_assoc]
        obtain ⟨hi1, hi2, hi3, hi4⟩ := linkQ_ids g r w
        have hids : (g.linkQ r w).nodes.map (·.id) = g.nodes.map (·.id) := by unfold Gr.nodes; rw [List.map_append, List.map_append, hi1, hi2]
        obtain ⟨r1, hr1⟩ := findL_ids hids h1
        obtain ⟨w1, hw1⟩ := findL_ids hids h2
        obtain ⟨hr1m, hr1i⟩ := findL_some hr1
        obtain ⟨hw1m, hw1i⟩ := findL_some hw1
        generalize hg1 : g.linkQ r w = g1 at *
        have hinto : Tri Try.prog 33 #[.pointer (some ⟨(M.ρ r.id).b, 0, none⟩), .pointer (some ⟨(M.ρ w.id).b, 0, none⟩)] (NC ρ' g1.nodes ++ NM ρ' g1.nodes) fun v L => ∃ B, SlS ρ' (intoL g1.nodes r1 w1) v B ∧ L = B ++ (NC ρ' g1.nodes ++ NM ρ' g1.nodes) := by
          have := into_tri hI1 hr1m hw1m
          rwa [hb1, hb1, hr1i, hw1i, ← hrid, ← hwid] at this
        have hfrom : Tri Try.prog 34 #[.pointer (some ⟨(M.ρ r.id).b, 0, none⟩), .pointer (some ⟨(M.ρ w.id).b, 0, none⟩), .bool false] (NC ρ' g1.nodes ++ NM ρ' g1.nodes) fun v L => ∃ B, SlS ρ' (fromL g1.nodes r1 w1 false) v B ∧ L = B ++ (NC ρ' g1.nodes ++ NM ρ' g1.nodes) := by
          have := from_tri (asked := false) hI1 hr1m hw1m
          rwa [hb1, hb1, hr1i, hw1i, ← hrid, ← hwid] at this
        have hlen1 := (s3_bound hI1 hr1m hw1m).1
        have hlen2 := (s3_bound hI1 hr1m hw1m).2 false
        have hin1 := intoL_in hI1 hr1m hw1m
        have hin2 := fromL_in (asked := false) hI1 hr1m hw1m
        have hgd : g.edgeG reader writer = g1.doomAll (intoL g1.nodes r1 w1 ++ fromL g1.nodes r1 w1 false) := by
          unfold Gr.edgeG; rw [h1, h2]; dsimp only; rw [if_neg hno, hg1, hr1, hw1]
        generalize hS1 : intoL g1.nodes r1 w1 = S1 at *
        generalize hS2 : fromL g1.nodes r1 w1 false = S2 at *
        have hin : ∀ s ∈ S1 ++ S2, s3in g1.nodes s := fun s hs => (List.mem_append.1 hs).elim (hin1 s) (hin2 s)
        have hlen : (S1 ++ S2).length ≤ 8002 := by rw [List.length_append]; omega
        (refine sn_ ?_; (apply sc_seq); (apply sc_seq))
        refine SC.mono (Q := fun u f L => u = .normal ∧ At f 0 (.pointer (some ⟨M.p, 0, none⟩)) ∧ At f 3 (.int .i64 acts) ∧ At f 92 (.int .i64 ((S1 ++ S2).length : Int)) ∧ At f 93 (.int .i64 0) ∧ ∃ v B, SlS ρ' (S1 ++ S2) v B ∧ At f 91 v ∧
          Held L (B ++ ((M.p, .cells [Value.int .i64 g.most, .int .i64 g.commits, .map (some M.lm), .map (some M.em)].toArray 66) :: (M.lm, .map M.esl M.cl) :: (M.em, .map M.ese M.ce) :: (NC ρ' g1.nodes ++ NM ρ' g1.nodes))) R) ?_ ?_
        · ((apply sc_region); (refine mv_ ?_); (refine mv_ ?_))
          (apply so_call; (exact Ev.func); (focus ((apply EvL.cons; (exact ev_)); (apply EvL.cons; (exact ev_)); exact EvL.nil)); (focus (repeat (first | exact App.nil | apply App.cons))); assumption; (exact hinto); (exact sel_); exact rfl)
          rintro v L ⟨B1, hB1, rfl⟩
          simp only [List.append_assoc]
          ((refine mv_ ?_); (refine mv_ ?_))
          (apply so_call; (exact Ev.func); (focus ((apply EvL.cons; (exact ev_)); (apply EvL.cons; (exact ev_)); (apply EvL.cons; (exact Ev.const)); exact EvL.nil)); (focus (repeat (first | exact App.nil | apply App.cons))); assumption; (exact hfrom); (exact sel_); exact rfl)
          rintro v2 L ⟨B2, hB2, rfl⟩
          simp only [List.append_assoc]
          (apply so_appS; (exact ev_); (exact ev_); exact hB1; exact hB2; (exact sel_); (intro x hx; simp only [List.mem_append]; exact .inl hx); exact hlen1; exact hlen2; assumption; assumption; assumption; assumption; exact rfl)
          intro v3 B3 hB3
          obtain ⟨po, cap, hv3⟩ := hB3.form
          subst hv3
          ((refine se_ (ex_len_slice ev_ asm_) ?_); (refine se_ (ex_move .const) ?_); (apply so_nil))
          refine ⟨rfl, at_, at_, at_, at_, _, B3, hB3, at_, ?_⟩
          exact held_
        clear a0 a3 a9 a10 a80
        rintro u f L ⟨rfl, a0, a3, a92, a93, v, B, hB, a91, ⟨G, hG⟩⟩
        apply nm_then
        refine sc_perm hG ?_
        obtain ⟨po, cap, hv3⟩ := hB.form
        subst hv3
        simp only [List.append_assoc, List.cons_append]
        generalize S1 ++ S2 = S at *
        ((apply sc_block))
        refine sc_loop (fun k f L => ∃ i : Nat, k = S.length - i ∧ i ≤ S.length ∧ At f 0 (.pointer (some ⟨M.p, 0, none⟩)) ∧ At f 3 (.int .i64 acts) ∧ At f 91 (.slice po S.length cap) ∧ At f 92 (.int .i64 (S.length : Int)) ∧ At f 93 (.int .i64 (i : Int)) ∧
          Held L (B ++ ((M.p, .cells [Value.int .i64 g.most, .int .i64 g.commits, .map (some M.lm), .map (some M.em)].toArray 66) :: (M.lm, .map M.esl M.cl) :: (M.em, .map M.ese M.ce) :: (NC ρ' (g1.doomV ((S.take i).filterMap (victL g1.nodes))).nodes ++ NM ρ' g1.nodes))) R)
          _ ⟨0, rfl, Nat.zero_le _, at_, at_, at_, at_, at_, by rw [List.take_zero, List.filterMap_nil, doomV_nil]; exact held_⟩ ?_
        clear hG a0 a3 a91 a92 a93
        rintro k f L ⟨i, hk, hi, a0, a3, a91, a92, a93, ⟨G, hG⟩⟩
        refine sc_perm hG ?_
        simp only [List.append_assoc, List.cons_append]
        by_cases hlt : i < S.length
        · have hlt' : (i : Int) < (S.length : Int) := by omega
          have e1 : ((i + 1 : Nat) : Int) = (i : Int) + 1 := by omega
          have htk := take_vs g1.nodes S hlt
          have hsi : s3in g1.nodes S[i] := hin _ (List.getElem_mem hlt)
          rcases hB with ⟨h0, _⟩ | ⟨b5, cap5, junk5, h0, hv5, hj5, rfl⟩
          · rw [h0] at hlt; exact absurd hlt (Nat.not_lt_zero _)
          injection hv5 with hv5 _ _
          subst hv5
          simp only [List.cons_append, List.nil_append]
          have hnth := s3_nth ρ' junk5 hlt
          generalize hss : S[i] = s at *
          generalize hvs : (S.take i).filterMap (victL g1.nodes) = vs at *
          have hinv := doomV_inv hI1 vs
          have hs2 : s3in (g1.doomV vs).nodes s := by unfold Gr.doomV; rw [upd_nodes]; exact s3in_upd setDm_id hsi
          have hvt := victimN_tri (ρ := ρ') hinv.nd hs2
          rw [victL_congr (doomV_stt g1 vs) s] at hvt
          cases hvv : victL g1.nodes s with
          | none =>
            rw [hvv] at hvt htk
            simp only [bO, ptrV, Option.toList_none, List.append_nil] at hvt htk
            (refine sr_ ?_; (refine se_ (ex_lss_t ev_ ev_ om_) ?_); refine sn_ ?_; (apply sc_seq); (refine ct_ ?_); (apply sc_skip); (apply nm_then); (apply sc_seq); (apply sc_block); refine sr_ ?_; (refine se_ (ex_indexAddr ev_ ev_ asm_ asm_ lit_ lt_) ?_); (apply so_ex; (apply ex_loadNr (r := s3cells ρ' s); (exact ev_); assumption; (exact mem_); exact rfl; exact hnth); exact rfl); (apply so_alloc; assumption; exact rfl; intro _); (apply so_store (r := s3cells ρ' s); (exact ev_); (exact ev_); assumption; exact rfl; exact rfl; exact s3_mem ρ' s; (focus (repeat (first | exact Turn.here | apply Turn.there | apply Turn.pre))); (focus (repeat (first | exact SetSub.nil | apply SetSub.take | apply SetSub.drop)))); refine sn_ ?_; refine sr_ ?_; (refine se_ (ex_loadN ev_ asm_ mem_ sub_) ?_); (apply so_callq; (exact Ev.func); (focus ((apply EvL.cons; (exact ev_)); exact EvL.nil)); (focus (repeat (first | exact App.nil | apply App.cons))); assumption; exact hvt; (exact sel_); exact rfl); (refine asg_ ?_); refine sn_ ?_; refine sr_ ?_; (refine mv_ ?_); (refine se_ (ex_nep_f ev_ .const asm_) ?_); refine sn_ ?_; (refine cf_ ?_); (apply sc_skip); (apply nm_block); (apply nm_then); (apply sc_region); (refine se_ (ex_add ev_ .const wr_) ?_); (refine mv_ ?_); (apply so_nil); (apply nm_then))
            exact ⟨S.length - (i + 1), by omega, i + 1, rfl, by omega, at_, at_, at_, at_, by rw [e1]; exact at_, by rw [htk]; exact held_⟩
          | some k =>
            obtain ⟨n, hn, rfl⟩ := victL_in hs2 ((victL_congr (doomV_stt g1 vs) s).trans hvv)
            rw [hvv] at hvt htk
            simp only [bO, ptrV, Option.toList_some] at hvt htk
            have hT0 := turn_cell (ρ := ρ') (f := setDm) hn hinv.nd rfl
            simp only [ncell, Nd.cells, setDm] at hT0
            (refine sr_ ?_; (refine se_ (ex_lss_t ev_ ev_ om_) ?_); refine sn_ ?_; (apply sc_seq); (refine ct_ ?_); (apply sc_skip); (apply nm_then); (apply sc_seq); (apply sc_block); refine sr_ ?_; (refine se_ (ex_indexAddr ev_ ev_ asm_ asm_ lit_ lt_) ?_); (apply so_ex; (apply ex_loadNr (r := s3cells ρ' s); (exact ev_); assumption; (exact mem_); exact rfl; exact hnth); exact rfl); (apply so_alloc; assumption; exact rfl; intro _); (apply so_store (r := s3cells ρ' s); (exact ev_); (exact ev_); assumption; exact rfl; exact rfl; exact s3_mem ρ' s; (focus (repeat (first | exact Turn.here | apply Turn.there | apply Turn.pre))); (focus (repeat (first | exact SetSub.nil | apply SetSub.take | apply SetSub.drop)))); refine sn_ ?_; refine sr_ ?_; (refine se_ (ex_loadN ev_ asm_ mem_ sub_) ?_); (apply so_callq; (exact Ev.func); (focus ((apply EvL.cons; (exact ev_)); exact EvL.nil)); (focus (repeat (first | exact App.nil | apply App.cons))); assumption; exact hvt; (exact sel_); exact rfl); (refine asg_ ?_); refine sn_ ?_; refine sr_ ?_; (refine mv_ ?_); (refine se_ (ex_nep_t ev_ .const asm_) ?_); refine sn_ ?_; (refine ct_ ?_); (apply sc_region); (refine mv_ ?_); (refine se_ (ex_nilCheck ev_) ?_); (refine se_ (ex_fieldAddr ev_ asm_) ?_); (apply so_store; (exact ev_); (exact Ev.const); assumption; exact rfl; exact rfl; exact rfl; (repeat (first | exact Turn.left hT0 _ | apply Turn.there | apply Turn.pre)); (focus (repeat (first | exact SetSub.nil | apply SetSub.take | apply SetSub.drop)))); (apply so_nil); (apply nm_block); (apply nm_then); (apply sc_region); (refine se_ (ex_add ev_ .const wr_) ?_); (refine mv_ ?_); (apply so_nil); (apply nm_then))
            refine ⟨S.length - (i + 1), by omega, i + 1, rfl, by omega, at_, at_, at_, at_, by rw [e1]; exact at_, ?_⟩
            rw [htk, ← doomV_snoc, upd_nodes]
            exact held_
        · have hlt' : ¬ (i : Int) < (S.length : Int) := by omega
          obtain rfl : i = S.length := by omega
          rw [List.take_length]
          have hgd2 : g1.doomAll S = g1.doomV (S.filterMap (victL g1.nodes)) := rfl
          have hgV : g.edgeG reader writer = g1.doomV (S.filterMap (victL g1.nodes)) := hgd
          have hR : g.edgeR reader writer acts = if (g.edgeG reader writer).isDoomed acts = true then 43 else 0 := by
            unfold Gr.edgeR; rw [h1, h2]; dsimp only; rw [if_neg hno]
          have hSame : Same g (g.edgeG reader writer) M { M with ρ := ρ' } := by
            rw [hgV]
            exact ⟨hi3, hi4, rfl, rfl, rfl, rfl, rfl, rfl, rfl⟩
          have hlv : (g.edgeG reader writer).live.map (·.id) = g.live.map (·.id) := by
            rw [hgV]; exact (updL_ids (f := setDm) setDm_id).trans hi1
          have hen : (g.edgeG reader writer).ended.map (·.id) = g.ended.map (·.id) := by
            rw [hgV]; exact (updL_ids (f := setDm) setDm_id).trans hi2
          have hInv : Inv K (g.edgeG reader writer) { M with ρ := ρ' } := by
            refine ⟨?_, ?_, ?_⟩
            · rw [hgV]; exact doomV_inv hI1 _
            · rw [mlist_ids hb1 hlv]; exact hI.ml
            · rw [mlist_ids hb1 hen]; exact hI.me
          have hNM : NM ρ' g1.nodes = NM ρ' (g.edgeG reader writer).nodes := by rw [hgV]; exact (doomV_NM g1 ρ' _).symm
          rw [hNM, ← hgV]
          have hdt := doomed_tri hInv (tx := acts)
          have hbl : blks (g.edgeG reader writer) { M with ρ := ρ' } = hblk g M ++ (NC ρ' (g.edgeG reader writer).nodes ++ NM ρ' (g.edgeG reader writer).nodes) := by
            unfold blks; rw [hSame.hblk]
          rw [hbl] at hdt
          simp only [hblk, gBlk, List.cons_append, List.nil_append] at hdt
          rw [hSame.1, hSame.2.1]
          cases hdm : (g.edgeG reader writer).isDoomed acts with
          | true =>
            rw [hdm] at hdt hR
            (refine sr_ ?_; (refine se_ (ex_lss_f ev_ ev_ om_) ?_); refine sn_ ?_; (apply sc_seq); (refine cf_ ?_); (apply sc_exit); (apply et_then); (apply et_then); (apply et_hit); (apply nm_then); (apply sc_seq); refine sr_ ?_; (refine mv_ ?_); (refine mv_ ?_); (apply so_callq; (exact Ev.func); (focus ((apply EvL.cons; (exact ev_)); (apply EvL.cons; (exact ev_)); exact EvL.nil)); (focus (repeat (first | exact App.nil | apply App.cons))); assumption; exact hdt; (exact sel_); exact rfl); refine sn_ ?_; (refine ct_ ?_); refine sr_ ?_; (refine ac_ ?_); refine sn_ ?_; (apply sc_ret); (apply rt_then); (apply ret_ok; (focus ((apply Res.tmp; (exact ev_)); exact Res.nil)); (exact ⟨by rw [hR]; rfl, { M with ρ := ρ' }, rfl, hInv, hSame⟩); (exact sel_); (exact appb_)))
          | false =>
            rw [hdm] at hdt hR
            (refine sr_ ?_; (refine se_ (ex_lss_f ev_ ev_ om_) ?_); refine sn_ ?_; (apply sc_seq); (refine cf_ ?_); (apply sc_exit); (apply et_then); (apply et_then); (apply et_hit); (apply nm_then); (apply sc_seq); refine sr_ ?_; (refine mv_ ?_); (refine mv_ ?_); (apply so_callq; (exact Ev.func); (focus ((apply EvL.cons; (exact ev_)); (apply EvL.cons; (exact ev_)); exact EvL.nil)); (focus (repeat (first | exact App.nil | apply App.cons))); assumption; exact hdt; (exact sel_); exact rfl); refine sn_ ?_; (refine cf_ ?_); (apply sc_skip); (apply nm_then); refine sr_ ?_; (refine ac_ ?_); refine sn_ ?_; (apply sc_ret); (apply ret_ok; (focus ((apply Res.tmp; (exact ev_)); exact Res.nil)); (exact ⟨by rw [hR]; rfl, { M with ρ := ρ' }, rfl, hInv, hSame⟩); (exact sel_); (exact appb_)))
end Go.Proofs.Ytomgkmoecbnddaa
