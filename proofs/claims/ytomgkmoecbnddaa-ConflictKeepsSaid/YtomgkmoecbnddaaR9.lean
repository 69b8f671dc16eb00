/- Conflict: Begin: its walk. -/
import Derived.Test.YtomgkmoecbnddaaR8
set_option linter.unusedVariables false
set_option linter.unusedSimpArgs false
set_option linter.unnecessarySimpa false
namespace Go.Proofs.Ytomgkmoecbnddaa
open Go.Sym

def addRaw (ρ : Int → Raw) (tx : Int) (rn : Raw) : Int → Raw := fun k => if k = tx then rn else ρ k
theorem addRaw_eq (ρ : Int → Raw) (tx : Int) (rn : Raw) : addRaw ρ tx rn tx = rn := if_pos rfl
theorem addRaw_ne (ρ : Int → Raw) (rn : Raw) {tx k : Int} (h : k ≠ tx) : addRaw ρ tx rn k = ρ k := if_neg h
theorem begin_tri {K : Nat} {g : Gr} {p : Nat} {L : List Blk} (hR : GRep K g p L) (hK : K + 1 ≤ 4000) {tx : Int} {ro : Bool} :
    Tri Try.prog 12 #[.pointer (some ⟨p, 0, none⟩), .int .i64 tx, .bool ro] L fun v L' => v = .tuple #[] ∧ ∃ M', L' = blks (g.beginQ tx ro) M' ∧ Inv (K + 1) (g.beginQ tx ro) M' ∧ M'.p = p ∧ SymG (g.beginQ tx ro) := by
  have f_mixed := mixed; have f_by3 := by3; have f_en14 := en14; have f_en29 := en29; have f_en30 := en30; have f_en31 := en31; have f_fo66_1 := fo66_1; have f_fo66_2 := fo66_2; have f_fo72_10 := fo72_10; have f_fo72_2 := fo72_2; have f_fo72_4 := fo72_4; have f_pl72_0 := pl72_0; have f_pl72_1 := pl72_1; have f_pl72_4 := pl72_4; have f_pl72_6 := pl72_6; have f_pl72_7 := pl72_7; have f_pl72_9 := pl72_9; have f_st72 := st72; have f_ty25 := ty25; have f_ty3 := ty3; have f_ty4 := ty4; have f_ty64 := ty64; have f_ty69 := ty69; have f_ty72 := ty72; have f_un_25 : Und Try.prog 25 _ := ⟨Try.underlying25⟩; have f_un_34 : Und Try.prog 34 _ := ⟨Try.underlying34⟩; have f_un_64 : Und Try.prog 64 _ := ⟨Try.underlying64⟩; have f_un_69 : Und Try.prog 69 _ := ⟨Try.underlying69⟩; have f_zero3 := zero3; have f_zero69 := zero69; have f_zero72 := zero72; have f_zv3 := zv3; have f_zv69 := zv69
  have f_kl := KL3
  have hmono : ∀ {g : Gr} {M : Mem} {K' : Nat}, K' ≤ K → Inv K' g M → Inv (K + 1) g M := fun hk h => ⟨invN_of ⟨h.n.nd, h.n.lv, h.n.en, h.n.ci, h.n.co, h.n.em, fun n hn => by have := h.n.rg n hn; omega, by have := h.n.sz; omega⟩ h.n.linv, h.ml, h.me⟩
  have hmono0 : ∀ {g : Gr} {M : Mem} {K' : Nat}, K' ≤ K → Inv K' g M → Inv K g M := fun hk h => ⟨invN_of ⟨h.n.nd, h.n.lv, h.n.en, h.n.ci, h.n.co, h.n.em, fun n hn => by have := h.n.rg n hn; omega, by have := h.n.sz; omega⟩ h.n.linv, h.ml, h.me⟩
  refine tri_perm' ?_
  refine tri_intro (args := [_, _, _]) Try.func12 rfl Try.ntmps12 rfl (rs := []) rfl rfl fun E R => ?_
  simp only [fr]
  ((apply sc_seq); (apply sc_seq); ((fail_if_success (apply sc_region (id := 1))); apply sc_region); (refine mv_ ?_); (refine se_ (ex_eqp_f ev_ .const asm_) ?_); refine sn_ ?_; (refine cf_ ?_); (apply sc_skip); (apply nm_then); (apply sc_seq))
  -- the maps are there
  refine SC.mono (Q := fun u f L => u = .normal ∧ At f 0 (.pointer (some ⟨p, 0, none⟩)) ∧ At f 1 (.int .i64 tx) ∧ At f 2 (.bool ro) ∧ ∃ M, M.p = p ∧ Inv K g M ∧ SymG g ∧ Held L (blks g M) R) ?_ ?_
  · rcases hR with ⟨hg, rfl⟩ | ⟨M, rfl, rfl, hI, hS⟩
    · have hrt := readyF_tri (p := p) (most := g.most)
      ((apply sc_region); (refine mv_ ?_))
      (apply so_call; (exact Ev.func); (focus ((apply EvL.cons; (exact ev_)); exact EvL.nil)); (focus (repeat (first | exact App.nil | apply App.cons))); assumption; (exact hrt); (exact sel_); exact rfl)
      rintro v L ⟨rfl, M, hp, rfl, hI⟩
      rw [← hg] at hI ⊢
      ((apply so_nil))
      refine ⟨rfl, at_, at_, at_, M, hp, hmono0 (Nat.zero_le _) hI, ?_, ?_⟩
      · rw [hg]; intro m hm; cases hm
      · exact ⟨[], by simp⟩
    · have hrt := readyG_tri (g := g) (M := M)
      simp only [blks, hblk, gBlk, List.cons_append, List.nil_append, List.append_assoc] at hrt ⊢
      ((apply sc_region); (refine mv_ ?_); (apply so_callq; (exact Ev.func); (focus ((apply EvL.cons; (exact ev_)); exact EvL.nil)); (focus (repeat (first | exact App.nil | apply App.cons))); assumption; exact hrt; (exact sel_); exact rfl); (apply so_nil))
      refine ⟨rfl, at_, at_, at_, M, rfl, hI, hS, held_⟩
  rintro u f L0 ⟨rfl, a0, a1, a2, M, rfl, hI, hS, ⟨G, hG⟩⟩
  apply nm_then
  refine sc_perm hG ?_
  clear hG hR
  have hf1 := findG_tri hI (tx := tx)
  -- a graph that the transaction is not in
  apply sc_seq
  refine SC.mono (Q := fun u f L => (u = .ret ∧ retPost Try.prog [] (fun v L => ∃ L', L.Perm L' ∧ v = .tuple #[] ∧ ∃ M', L' = blks (g.beginQ tx ro) M' ∧ Inv (K + 1) (g.beginQ tx ro) M' ∧ M'.p = M.p ∧ SymG (g.beginQ tx ro)) R .ret f L) ∨ (u = .normal ∧ At f 0 (.pointer (some ⟨M.p, 0, none⟩)) ∧ At f 1 (.int .i64 tx) ∧ At f 2 (.bool ro) ∧ ∃ g1 M1, M1.p = M.p ∧ Inv K g1 M1 ∧ SymG g1 ∧ findL g1.nodes tx = none ∧ g.beginQ tx ro = g1.addN tx ro ∧ Held L (blks g1 M1) R)) ?_ ?_
  · cases h1 : findL g.nodes tx with
    | none =>
      rw [h1] at hf1
      simp only [ptrO] at hf1
      have e1 : g.beginQ tx ro = g.addN tx ro := by unfold Gr.beginQ; rw [h1]
      have hH : blks g M ++ (G ++ R) = (M.p, .cells [Value.int .i64 g.most, .int .i64 g.commits, .map (some M.lm), .map (some M.em)].toArray 66) :: (M.lm, .map M.esl M.cl) :: (M.em, .map M.ese M.ce) :: (NC M.ρ g.nodes ++ (NM M.ρ g.nodes ++ (G ++ R))) := by simp only [blks, hblk, gBlk, List.cons_append, List.nil_append, List.append_assoc]
      rw [hH]
      (refine sr_ ?_; (refine mv_ ?_); (refine mv_ ?_); (apply so_callq; (exact Ev.func); (focus ((apply EvL.cons; (exact ev_)); (apply EvL.cons; (exact ev_)); exact EvL.nil)); (focus (repeat (first | exact App.nil | apply App.cons))); assumption; exact hf1; (exact sel_); exact rfl); (refine asg_ ?_); refine sn_ ?_; refine sr_ ?_; (refine mv_ ?_); (refine se_ (ex_nep_f ev_ .const asm_) ?_); refine sn_ ?_; (refine cf_ ?_); (apply sc_skip))
      refine .inr ⟨rfl, at_, at_, at_, g, M, rfl, hI, hS, h1, e1, ⟨G, ?_⟩⟩
      rw [← hH]
    | some n =>
      rw [h1] at hf1
      simp only [ptrO] at hf1
      obtain ⟨hn, hnid⟩ := findL_some h1
      have hnc := nb_cell (ρ := M.ρ) hn
      simp only [ncell, Nd.cells] at hnc
      have hH : blks g M ++ (G ++ R) = (M.p, .cells [Value.int .i64 g.most, .int .i64 g.commits, .map (some M.lm), .map (some M.em)].toArray 66) :: (M.lm, .map M.esl M.cl) :: (M.em, .map M.ese M.ce) :: (NC M.ρ g.nodes ++ (NM M.ρ g.nodes ++ (G ++ R))) := by simp only [blks, hblk, gBlk, List.cons_append, List.nil_append, List.append_assoc]
      by_cases hre : n.state ≠ 0 ∨ n.ro = false ∨ ro = false
      · have e1 : g.beginQ tx ro = g := by unfold Gr.beginQ; rw [h1]; dsimp only; rw [if_pos hre]
        have hI' := hmono (Nat.le_refl _) hI
        by_cases h0 : n.state = 0
        · cases hro : n.ro with
          | false =>
            rw [hro] at hnc
            rw [hH]
            (refine sr_ ?_; (refine mv_ ?_); (refine mv_ ?_); (apply so_callq; (exact Ev.func); (focus ((apply EvL.cons; (exact ev_)); (apply EvL.cons; (exact ev_)); exact EvL.nil)); (focus (repeat (first | exact App.nil | apply App.cons))); assumption; exact hf1; (exact sel_); exact rfl); (refine asg_ ?_); refine sn_ ?_; refine sr_ ?_; (refine mv_ ?_); (refine se_ (ex_nep_t ev_ .const asm_) ?_); refine sn_ ?_; (refine ct_ ?_); (apply sc_seq); refine sr_ ?_; (refine mv_ ?_); (refine se_ (ex_nilCheck ev_) ?_); (refine se_ (ex_fieldAddr ev_ asm_) ?_); (refine se_ (ex_load1 ev_ asm_ mem_ nth_) ?_); (refine se_ (ex_neq_f ev_ .const om_) ?_); (refine mv_ ?_); (refine wt_ ?_); (refine mv_ ?_); (refine wt_ ?_); (refine se_ (ex_nilCheck ev_) ?_); (refine wt_ ?_); (refine se_ (ex_fieldAddr ev_ asm_) ?_); (refine wt_ ?_); (refine se_ (ex_load1 ev_ asm_ mem_ nth_) ?_); (refine wt_ ?_); (refine se_ (ex_not ev_) ?_); (refine se_ (ex_pick_f ev_ ev_) ?_); (refine mv_ ?_); (refine sk_ ?_); (refine sk_ ?_); (refine se_ (ex_pick_t ev_ .const) ?_); refine sn_ ?_; (refine ct_ ?_); (apply sc_ret); (apply rt_then))
            refine .inl ⟨rfl, ?_⟩
            rw [e1]
            simp only [blks, hblk, gBlk, List.cons_append, List.nil_append, List.append_assoc]
            (apply ret_ok; (focus (exact Res.nil)); (exact ⟨_, .refl _, rfl, M, rfl, hI', rfl, hS⟩); (exact sel_); (exact appb_))
          | true =>
            obtain rfl : ro = false := by
              rcases hre with h | h | h
              · exact absurd h0 h
              · rw [hro] at h; cases h
              · exact h
            rw [hro] at hnc
            rw [hH]
            (refine sr_ ?_; (refine mv_ ?_); (refine mv_ ?_); (apply so_callq; (exact Ev.func); (focus ((apply EvL.cons; (exact ev_)); (apply EvL.cons; (exact ev_)); exact EvL.nil)); (focus (repeat (first | exact App.nil | apply App.cons))); assumption; exact hf1; (exact sel_); exact rfl); (refine asg_ ?_); refine sn_ ?_; refine sr_ ?_; (refine mv_ ?_); (refine se_ (ex_nep_t ev_ .const asm_) ?_); refine sn_ ?_; (refine ct_ ?_); (apply sc_seq); refine sr_ ?_; (refine mv_ ?_); (refine se_ (ex_nilCheck ev_) ?_); (refine se_ (ex_fieldAddr ev_ asm_) ?_); (refine se_ (ex_load1 ev_ asm_ mem_ nth_) ?_); (refine se_ (ex_neq_f ev_ .const om_) ?_); (refine mv_ ?_); (refine wt_ ?_); (refine mv_ ?_); (refine wt_ ?_); (refine se_ (ex_nilCheck ev_) ?_); (refine wt_ ?_); (refine se_ (ex_fieldAddr ev_ asm_) ?_); (refine wt_ ?_); (refine se_ (ex_load1 ev_ asm_ mem_ nth_) ?_); (refine wt_ ?_); (refine se_ (ex_not ev_) ?_); (refine se_ (ex_pick_f ev_ ev_) ?_); (refine mv_ ?_); (refine wt_ ?_); (refine mv_ ?_); (refine wt_ ?_); (refine se_ (ex_not ev_) ?_); (refine se_ (ex_pick_f ev_ ev_) ?_); refine sn_ ?_; (refine ct_ ?_); (apply sc_ret); (apply rt_then))
            refine .inl ⟨rfl, ?_⟩
            rw [e1]
            simp only [blks, hblk, gBlk, List.cons_append, List.nil_append, List.append_assoc]
            (apply ret_ok; (focus (exact Res.nil)); (exact ⟨_, .refl _, rfl, M, rfl, hI', rfl, hS⟩); (exact sel_); (exact appb_))
        · rw [hH]
          (refine sr_ ?_; (refine mv_ ?_); (refine mv_ ?_); (apply so_callq; (exact Ev.func); (focus ((apply EvL.cons; (exact ev_)); (apply EvL.cons; (exact ev_)); exact EvL.nil)); (focus (repeat (first | exact App.nil | apply App.cons))); assumption; exact hf1; (exact sel_); exact rfl); (refine asg_ ?_); refine sn_ ?_; refine sr_ ?_; (refine mv_ ?_); (refine se_ (ex_nep_t ev_ .const asm_) ?_); refine sn_ ?_; (refine ct_ ?_); (apply sc_seq); refine sr_ ?_; (refine mv_ ?_); (refine se_ (ex_nilCheck ev_) ?_); (refine se_ (ex_fieldAddr ev_ asm_) ?_); (refine se_ (ex_load1 ev_ asm_ mem_ nth_) ?_); (refine se_ (ex_neq_t ev_ .const om_) ?_); (refine mv_ ?_); (refine sk_ ?_); (refine sk_ ?_); (refine sk_ ?_); (refine sk_ ?_); (refine sk_ ?_); (refine se_ (ex_pick_t ev_ .const) ?_); (refine mv_ ?_); (refine sk_ ?_); (refine sk_ ?_); (refine se_ (ex_pick_t ev_ .const) ?_); refine sn_ ?_; (refine ct_ ?_); (apply sc_ret); (apply rt_then))
          refine .inl ⟨rfl, ?_⟩
          rw [e1]
          simp only [blks, hblk, gBlk, List.cons_append, List.nil_append, List.append_assoc]
          (apply ret_ok; (focus (exact Res.nil)); (exact ⟨_, .refl _, rfl, M, rfl, hI', rfl, hS⟩); (exact sel_); (exact appb_))
      · have h0 : n.state = 0 := Classical.byContradiction fun h => hre (.inl h)
        have hro : n.ro = true := by cases h : n.ro with | true => rfl | false => exact absurd (.inr (.inl h)) hre
        have hro2 : ro = true := by cases ro with | true => rfl | false => exact absurd (.inr (.inr rfl)) hre
        subst hro2
        have e1 : g.beginQ tx true = (g.abortQ tx).addN tx true := by unfold Gr.beginQ; rw [h1]; dsimp only; rw [if_neg hre]
        have hn2 : n.state ≠ 2 := by rw [h0]; decide
        have hab := abort_tri hI hS (tx := tx)
        have hno := abortQ_out hI.n h1 hn2
        have hS2 : SymG (g.abortQ tx) := by
          have hnl : n ∈ g.live := (List.mem_append.1 hn).resolve_right fun h => hn2 (hI.n.en n h)
          have := (off_gok (K' := K) (q1 := none) (q2 := none) (cm := g.commits) (es := []) hI.n.gok hS hnl (Nat.le_refl _) hI.n.sz.2.2.2 ⟨hI.n.sz.2.1, hI.n.sz.2.2.1⟩ (.inl rfl)).2
          unfold Gr.abortQ; rw [h1]; dsimp only; rw [if_neg hn2]; exact this
        rw [hro] at hnc
        rw [hH]
        (refine sr_ ?_; (refine mv_ ?_); (refine mv_ ?_); (apply so_callq; (exact Ev.func); (focus ((apply EvL.cons; (exact ev_)); (apply EvL.cons; (exact ev_)); exact EvL.nil)); (focus (repeat (first | exact App.nil | apply App.cons))); assumption; exact hf1; (exact sel_); exact rfl); (refine asg_ ?_); refine sn_ ?_; refine sr_ ?_; (refine mv_ ?_); (refine se_ (ex_nep_t ev_ .const asm_) ?_); refine sn_ ?_; (refine ct_ ?_); (apply sc_seq); refine sr_ ?_; (refine mv_ ?_); (refine se_ (ex_nilCheck ev_) ?_); (refine se_ (ex_fieldAddr ev_ asm_) ?_); (refine se_ (ex_load1 ev_ asm_ mem_ nth_) ?_); (refine se_ (ex_neq_f ev_ .const om_) ?_); (refine mv_ ?_); (refine wt_ ?_); (refine mv_ ?_); (refine wt_ ?_); (refine se_ (ex_nilCheck ev_) ?_); (refine wt_ ?_); (refine se_ (ex_fieldAddr ev_ asm_) ?_); (refine wt_ ?_); (refine se_ (ex_load1 ev_ asm_ mem_ nth_) ?_); (refine wt_ ?_); (refine se_ (ex_not ev_) ?_); (refine se_ (ex_pick_f ev_ ev_) ?_); (refine mv_ ?_); (refine wt_ ?_); (refine mv_ ?_); (refine wt_ ?_); (refine se_ (ex_not ev_) ?_); (refine se_ (ex_pick_f ev_ ev_) ?_); refine sn_ ?_; (refine cf_ ?_); (apply sc_skip); (apply nm_then); (apply sc_region); (refine mv_ ?_); (refine mv_ ?_))
        simp only [blks, hblk, gBlk, List.cons_append, List.nil_append, List.append_assoc] at hab
        (apply so_call; (exact Ev.func); (focus ((apply EvL.cons; (exact ev_)); (apply EvL.cons; (exact ev_)); exact EvL.nil)); (focus (repeat (first | exact App.nil | apply App.cons))); assumption; (exact hab); (exact sel_); exact rfl)
        rintro v L ⟨rfl, M', rfl, hI4, hp4⟩
        simp only [List.cons_append, List.append_assoc]
        ((apply so_nil))
        refine .inr ⟨rfl, at_, at_, at_, g.abortQ tx, M', hp4, hI4, hS2, hno, e1, ?_⟩
        simp only [blks, hblk, gBlk, List.cons_append, List.nil_append, List.append_assoc]
        exact held_
  clear hf1
  rintro u f L (⟨rfl, hret⟩ | ⟨rfl, a0, a1, a2, g1, M1, hp1, hI1, hS1, hno1, e1, ⟨G, hG⟩⟩)
  · exact rt_then hret
  apply nm_then
  refine sc_perm hG ?_
  rw [e1]
  rw [← hp1] at a0 ⊢
  clear hG e1 hI hS
  obtain ⟨hgo, hso⟩ := addN_gok (tx := tx) (ro := ro) hI1.n.gok hS1 hK hno1
  have hndl : (g1.live.map (·.id)).Nodup := by have := hI1.n.nd; unfold Gr.nodes at this; rw [List.map_append, List.nodup_append] at this; exact this.1
  have hkt := keysL_tri hI1
  have hml := hI1.ml
  have hsz := hI1.n.sz
  simp only [blks, hblk, gBlk, List.cons_append, List.nil_append, List.append_assoc]
  (refine sr_ ?_; (refine mv_ ?_); (refine mv_ ?_); (refine se_ (ex_nilCheck ev_) ?_); (refine se_ (ex_fieldAddr ev_ asm_) ?_); (refine se_ (ex_load1 ev_ asm_ mem_ nth_) ?_); (refine mv_ ?_); (apply so_makeMap; exact rfl; intro _); (apply so_makeMap; exact rfl; intro _); (apply so_ex; (apply ex_build; ((focus ((apply EvP.cons; (exact ev_)); (apply EvP.cons; (exact ev_)); (apply EvP.cons; (exact ev_)); (apply EvP.cons; (exact ev_)); (apply EvP.cons; (exact ev_)); (apply EvP.cons; (exact Ev.const)); exact EvP.nil))); assumption; ((focus (repeat (first | exact Bld.nil (by assumption) | (apply Bld.cons; assumption; exact rfl; exact rfl; (focus (repeat (first | exact SetSub.nil | apply SetSub.take | apply SetSub.drop))))))))); exact rfl); (apply so_box; (exact ev_); exact rfl; exact rfl; intro _); (refine asg_ ?_); refine sn_ ?_; (apply sc_seq); refine sr_ ?_; (refine mv_ ?_); (refine se_ (ex_nilCheck ev_) ?_); (refine se_ (ex_fieldAddr ev_ asm_) ?_); (refine se_ (ex_load1 ev_ asm_ mem_ nth_) ?_))
  rename_i ma mb nb
  (apply so_call; (exact Ev.func); (focus ((apply EvL.cons; (exact ev_)); exact EvL.nil)); (focus (repeat (first | exact App.nil | apply App.cons))); assumption; (exact hkt); (exact sel_); exact rfl)
  rintro v5 L ⟨B5, hB5, rfl⟩
  simp only [List.append_assoc, List.cons_append, List.nil_append]
  obtain ⟨po, cap5, hv⟩ := hB5.form
  subst hv
  ((refine se_ (ex_len_slice ev_ asm_) ?_); (refine se_ (ex_move .const) ?_); refine sn_ ?_; (apply sc_block))
  have hzl : (sortI (g1.live.map (·.id))).length ≤ 4000 := by rw [(sortI_perm _).length_eq, List.length_map]; omega
  have hbs : bsOf g1.live = (sortI (g1.live.map (·.id))).filter fun k => !((findL g1.live k).map (·.ro)).getD true := rfl
  have hzin : ∀ k ∈ sortI (g1.live.map (·.id)), ∃ m ∈ g1.live, m.id = k := fun k hk => by
    obtain ⟨m, h1, h2⟩ := List.mem_map.1 ((sortI_perm _).mem_iff.1 hk); exact ⟨m, h1, h2⟩
  generalize hzs : sortI (g1.live.map (·.id)) = zs at *
  refine sc_loop (fun k f L => ∃ i : Nat, k = zs.length - i ∧ i ≤ zs.length ∧ At f 0 (.pointer (some ⟨M1.p, 0, none⟩)) ∧ At f 1 (.int .i64 tx) ∧ At f 7 (.pointer (some ⟨nb, 0, none⟩)) ∧ At f 52 (.slice po zs.length cap5) ∧ At f 53 (.int .i64 (zs.length : Int)) ∧ At f 54 (.int .i64 (i : Int)) ∧
    ∃ v B, SlI ((zs.take i).filter fun k => !((findL g1.live k).map (·.ro)).getD true) v B ∧ Held L (B5 ++ (B ++ ((nb, .cells [Value.int .i64 tx, .int .i64 g1.commits, .int .i64 0, .int .i64 0, .bool ro, .bool false, .map (some ma), .map (some mb), .int .i64 0, .int .i64 4611686018427387903, v].toArray 72) :: (ma, .map #[] 0) :: (mb, .map #[] 0) :: (M1.p, .cells [Value.int .i64 g1.most, .int .i64 g1.commits, .map (some M1.lm), .map (some M1.em)].toArray 66) :: (M1.lm, .map M1.esl M1.cl) :: (M1.em, .map M1.ese M1.ce) :: (NC M1.ρ g1.nodes ++ NM M1.ρ g1.nodes)))) R)
    _ ⟨0, rfl, Nat.zero_le _, at_, at_, at_, at_, at_, at_, .slice none 0 0, [], by rw [List.take_zero]; exact .inl ⟨rfl, rfl, rfl⟩, by simp only [List.nil_append]; exact held_⟩ ?_
  clear a0 a1 a2
  rintro k f L ⟨i, hk, hi, a0, a1, a7, a52, a53, a54, v, B, hB, ⟨G, hG⟩⟩
  refine sc_perm hG ?_
  simp only [List.append_assoc, List.cons_append]
  by_cases hlt : i < zs.length
  · have hlt' : (i : Int) < (zs.length : Int) := by omega
    have e1 : ((i + 1 : Nat) : Int) = (i : Int) + 1 := by omega
    rcases hB5 with ⟨h0, _⟩ | ⟨b5, cap6, junk5, h0, hv5, hj5, rfl⟩
    · rw [h0] at hlt; exact absurd hlt (Nat.not_lt_zero _)
    injection hv5 with hv5 _ _
    subst hv5
    simp only [List.cons_append, List.nil_append]
    have hz := zs_nth (junk := junk5) hlt
    obtain ⟨nk, hnk, hid⟩ := hzin _ (List.getElem_mem hlt)
    have htk : zs.take (i + 1) = zs.take i ++ [zs[i]] := List.take_succ_eq_append_getElem hlt
    have hlook : (lookV (mlist M1.ρ g1.live) zs[i]).getD (.pointer none) = .pointer (some ⟨(M1.ρ nk.id).b, 0, none⟩) := by
      rw [← hid, lookV_mlist, findL_mem hndl hnk]; rfl
    have hnc := nb_cell (ρ := M1.ρ) (l := g1.nodes) (List.mem_append_left _ hnk)
    simp only [ncell, Nd.cells] at hnc
    generalize hkk : zs[i] = kk at *
    subst hid
    have hro : ((findL g1.live nk.id).map (·.ro)).getD true = nk.ro := by rw [findL_mem hndl hnk]; rfl
    cases hnr : nk.ro with
    | true =>
      rw [hnr] at hnc hro
      (refine sr_ ?_; (refine se_ (ex_lss_t ev_ ev_ om_) ?_); refine sn_ ?_; (apply sc_seq); (refine ct_ ?_); (apply sc_skip); (apply nm_then); (apply sc_seq); (apply sc_block); refine sr_ ?_; (refine se_ (ex_indexAddr ev_ ev_ asm_ asm_ lit_ lt_) ?_); (apply so_ex; (apply ex_load1r; (exact ev_); assumption; (exact mem_); exact hz); exact rfl); (refine asg_ ?_); refine sn_ ?_; refine sr_ ?_; (refine mv_ ?_); (refine se_ (ex_nilCheck ev_) ?_); (refine se_ (ex_fieldAddr ev_ asm_) ?_); (refine se_ (ex_load1 ev_ asm_ mem_ nth_) ?_); (refine mv_ ?_); (apply so_ex; (apply ex_look; (exact ev_); (exact mem_); assumption; (exact ev_); (first | exact keyEq .. | exact rfl); assumption; assumption; assumption; (first | exact lookEq .. | exact lookEq3 .. | exact lookEq4 .. | assumption | exact rfl)); exact rfl); (refine se_ (ex_nilCheck ev_) ?_); (refine se_ (ex_fieldAddr ev_ asm_) ?_); (refine se_ (ex_load1 ev_ asm_ mem_ nth_) ?_); (refine se_ (ex_not ev_) ?_); refine sn_ ?_; (refine cf_ ?_); (apply sc_skip); (apply nm_block); (apply nm_then); (apply sc_region); (refine se_ (ex_add ev_ .const wr_) ?_); (refine mv_ ?_); (apply so_nil); (apply nm_then))
      exact ⟨zs.length - (i + 1), by omega, i + 1, rfl, by omega, at_, at_, at_, at_, at_, by rw [e1]; exact at_, v, B, by rw [htk, List.filter_append, List.filter_cons, hro]; simpa using hB, held_⟩
    | false =>
      rw [hnr] at hnc hro
      have htk2 : (zs.take (i + 1)).filter (fun k => !((findL g1.live k).map (·.ro)).getD true) = (zs.take i).filter (fun k => !((findL g1.live k).map (·.ro)).getD true) ++ [nk.id] := by
        rw [htk, List.filter_append, List.filter_cons, hro]; rfl
      have hfl := List.length_filter_le (fun k => !((findL g1.live k).map (·.ro)).getD true) (zs.take i)
      rw [List.length_take] at hfl
      generalize hS : (zs.take i).filter (fun k => !((findL g1.live k).map (·.ro)).getD true) = S at *
      rcases hB with ⟨h1, h2, h3⟩ | ⟨b4, cap4, junk4, h1, h2, h3, h4⟩
      · subst h1 h2 h3
        simp only [List.nil_append]
        (refine sr_ ?_; (refine se_ (ex_lss_t ev_ ev_ om_) ?_); refine sn_ ?_; (apply sc_seq); (refine ct_ ?_); (apply sc_skip); (apply nm_then); (apply sc_seq); (apply sc_block); refine sr_ ?_; (refine se_ (ex_indexAddr ev_ ev_ asm_ asm_ lit_ lt_) ?_); (apply so_ex; (apply ex_load1r; (exact ev_); assumption; (exact mem_); exact hz); exact rfl); (refine asg_ ?_); refine sn_ ?_; refine sr_ ?_; (refine mv_ ?_); (refine se_ (ex_nilCheck ev_) ?_); (refine se_ (ex_fieldAddr ev_ asm_) ?_); (refine se_ (ex_load1 ev_ asm_ mem_ nth_) ?_); (refine mv_ ?_); (apply so_ex; (apply ex_look; (exact ev_); (exact mem_); assumption; (exact ev_); (first | exact keyEq .. | exact rfl); assumption; assumption; assumption; (first | exact lookEq .. | exact lookEq3 .. | exact lookEq4 .. | assumption | exact rfl)); exact rfl); (refine se_ (ex_nilCheck ev_) ?_); (refine se_ (ex_fieldAddr ev_ asm_) ?_); (refine se_ (ex_load1 ev_ asm_ mem_ nth_) ?_); (refine se_ (ex_not ev_) ?_); refine sn_ ?_; (refine ct_ ?_); (apply sc_region); (refine mv_ ?_); (refine mv_ ?_); (refine se_ (ex_nilCheck ev_) ?_); (refine se_ (ex_fieldAddr ev_ asm_) ?_); (refine se_ (ex_load1 ev_ asm_ mem_ nth_) ?_); (refine mv_ ?_); (apply so_buildS; (focus ((apply EvP.cons; (exact ev_)); exact EvP.nil)); assumption; assumption; assumption; (focus (repeat (first | exact SeqP.nil | (apply SeqP.cons; exact rfl; exact rfl) | exact App.nil | apply App.cons))); exact rfl; exact rfl; exact rfl; intro _); (apply so_app0; (exact ev_); (exact ev_); (exact mem_); assumption; assumption; assumption; exact rfl; assumption; exact rfl; exact rfl; (first | assumption | omega | decide); (first | assumption | omega | decide); exact rfl; exact rfl; exact rfl; intro _ _ _ _); (refine se_ (ex_nilCheck ev_) ?_); (refine se_ (ex_fieldAddr ev_ asm_) ?_); (apply so_store; (exact ev_); (exact ev_); assumption; exact rfl; exact rfl; exact rfl; (focus (repeat (first | exact Turn.here | apply Turn.there | apply Turn.pre))); (focus (repeat (first | exact SetSub.nil | apply SetSub.take | apply SetSub.drop)))); (apply so_nil); (apply nm_block); (apply nm_then); (apply sc_region); (refine se_ (ex_add ev_ .const wr_) ?_); (refine mv_ ?_); (apply so_nil); (apply nm_then))
        rename_i b1 b cap junk hj
        refine ⟨zs.length - (i + 1), by omega, i + 1, rfl, by omega, at_, at_, at_, at_, at_, by rw [e1]; exact at_, .slice (some ⟨b, 0, none⟩) 1 cap, [(b, .cells ([nk.id].map (Value.int .i64) ++ junk).toArray 3)], ?_, ?_⟩
        · rw [htk2]
          exact .inr ⟨b, cap, junk, by simp, rfl, by simp at hj ⊢; omega, rfl⟩
        · simp only [List.map_cons, List.map_nil, List.cons_append, List.nil_append]
          exact held_
      · subst h2 h4
        simp only [List.cons_append, List.nil_append]
        have hxl : (S.map (Value.int .i64)).length = S.length * 1 := by simp
        have hjl : (S.map (Value.int .i64) ++ junk4).length = cap4 * 1 := by omega
        have hsb : S.length ≤ 4000 := by omega
        (refine sr_ ?_; (refine se_ (ex_lss_t ev_ ev_ om_) ?_); refine sn_ ?_; (apply sc_seq); (refine ct_ ?_); (apply sc_skip); (apply nm_then); (apply sc_seq); (apply sc_block); refine sr_ ?_; (refine se_ (ex_indexAddr ev_ ev_ asm_ asm_ lit_ lt_) ?_); (apply so_ex; (apply ex_load1r; (exact ev_); assumption; (exact mem_); exact hz); exact rfl); (refine asg_ ?_); refine sn_ ?_; refine sr_ ?_; (refine mv_ ?_); (refine se_ (ex_nilCheck ev_) ?_); (refine se_ (ex_fieldAddr ev_ asm_) ?_); (refine se_ (ex_load1 ev_ asm_ mem_ nth_) ?_); (refine mv_ ?_); (apply so_ex; (apply ex_look; (exact ev_); (exact mem_); assumption; (exact ev_); (first | exact keyEq .. | exact rfl); assumption; assumption; assumption; (first | exact lookEq .. | exact lookEq3 .. | exact lookEq4 .. | assumption | exact rfl)); exact rfl); (refine se_ (ex_nilCheck ev_) ?_); (refine se_ (ex_fieldAddr ev_ asm_) ?_); (refine se_ (ex_load1 ev_ asm_ mem_ nth_) ?_); (refine se_ (ex_not ev_) ?_); refine sn_ ?_; (refine ct_ ?_); (apply sc_region); (refine mv_ ?_); (refine mv_ ?_); (refine se_ (ex_nilCheck ev_) ?_); (refine se_ (ex_fieldAddr ev_ asm_) ?_); (refine se_ (ex_load1 ev_ asm_ mem_ nth_) ?_); (refine mv_ ?_); (apply so_buildS; (focus ((apply EvP.cons; (exact ev_)); exact EvP.nil)); assumption; assumption; assumption; (focus (repeat (first | exact SeqP.nil | (apply SeqP.cons; exact rfl; exact rfl) | exact App.nil | apply App.cons))); exact rfl; exact rfl; exact rfl; intro _); (apply so_app1; (exact ev_); (exact ev_); (exact pick_); (exact mem_); assumption; assumption; assumption; assumption; assumption; exact rfl; assumption; exact rfl; exact rfl; (first | assumption | omega | decide); (first | assumption | omega | decide); exact rfl; exact rfl; exact rfl; intro _ _ _ _ _); (refine se_ (ex_nilCheck ev_) ?_); (refine se_ (ex_fieldAddr ev_ asm_) ?_); (apply so_store; (exact ev_); (exact ev_); assumption; exact rfl; exact rfl; exact rfl; (focus (repeat (first | exact Turn.here | apply Turn.there | apply Turn.pre))); (focus (repeat (first | exact SetSub.nil | apply SetSub.take | apply SetSub.drop)))); (apply so_nil); (apply nm_block); (apply nm_then); (apply sc_region); (refine se_ (ex_add ev_ .const wr_) ?_); (refine mv_ ?_); (apply so_nil); (apply nm_then))
        rename_i b1 b cap junk hj hj2
        have e2 : (S ++ [nk.id]).map (Value.int .i64) = S.map (Value.int .i64) ++ [Value.int .i64 nk.id] := by simp
        refine ⟨zs.length - (i + 1), by omega, i + 1, rfl, by omega, at_, at_, at_, at_, at_, by rw [e1]; exact at_, .slice (some ⟨b, 0, none⟩) (S.length + 1) cap, [(b, .cells ((S ++ [nk.id]).map (Value.int .i64) ++ junk).toArray 3)], ?_, ?_⟩
        · rw [htk2]
          exact .inr ⟨b, cap, junk, by simp, by simp, by rw [e2]; omega, rfl⟩
        · rw [e2]
          simp only [List.cons_append, List.nil_append]
          exact held_
  · have hlt' : ¬ (i : Int) < (zs.length : Int) := by omega
    obtain rfl : i = zs.length := by omega
    rw [List.take_length, ← hbs] at hB
    (refine sr_ ?_; (refine se_ (ex_lss_f ev_ ev_ om_) ?_); refine sn_ ?_; (apply sc_seq); (refine cf_ ?_); (apply sc_exit); (apply et_then); (apply et_then); (apply et_hit); (apply nm_then); (apply sc_region); (refine mv_ ?_); (refine se_ (ex_nilCheck ev_) ?_); (refine se_ (ex_fieldAddr ev_ asm_) ?_); (refine se_ (ex_load1 ev_ asm_ mem_ nth_) ?_); (refine mv_ ?_); (refine mv_ ?_); (apply so_mapUp; (exact ev_); (intro _ _; (focus (repeat (first | exact Turn.here | apply Turn.there | apply Turn.pre)))); assumption; (exact ev_); (first | exact keyEq .. | exact rfl); (exact ev_); assumption; assumption; intro _ _ _); (apply so_nil))
    rename_i es1 c1 hm1
    generalize hrn : (⟨nb, ma, mb, #[], 0, #[], 0, v, B⟩ : Raw) = rn
    have hnl : ∀ m ∈ g1.nodes, m.id ≠ tx := findL_none hno1
    have hr2 : ∀ k, k ≠ tx → addRaw M1.ρ tx rn k = M1.ρ k := fun k h => addRaw_ne _ _ h
    have hr1 : addRaw M1.ρ tx rn tx = rn := addRaw_eq _ _ _
    have hkl : ∀ l : List Int, (∀ k ∈ l, k ≠ tx) → klist (addRaw M1.ρ tx rn) l = klist M1.ρ l := fun l h => by
      unfold klist
      apply List.map_congr_left
      intro k hk
      rw [hr2 k (h k hk)]
    have hlin : LInv (addRaw M1.ρ tx rn) (g1.addN tx ro).nodes := by
      have hcase : ∀ m ∈ (g1.addN tx ro).nodes, m ∈ g1.nodes ∨ m = newN g1 tx ro := fun m hm => by
        rcases List.mem_append.1 hm with h | h
        · rcases List.mem_append.1 h with h | h
          · exact .inl (List.mem_append_left _ h)
          · exact .inr (List.mem_singleton.1 h)
        · exact .inl (List.mem_append_right _ h)
      have hlv : ∀ m ∈ g1.nodes, m.state ≠ 2 → m ∈ g1.live := fun m hm hs => (List.mem_append.1 hm).resolve_right fun h => hs (hI1.n.en m h)
      refine ⟨hgo.nd, fun m hm hs => ?_, fun m hm hs => ?_, fun m hm => ?_⟩
      · rcases hcase m hm with h | rfl
        · rw [hr2 _ (hnl m h), hkl _ fun k hk => by obtain ⟨x, h1, h2⟩ := (hI1.n.ci m (hlv m h hs) k hk).2; rw [← h2]; exact hnl x (List.mem_append_left _ h1)]
          exact hI1.n.linv.mi m h hs
        · show MapOf _ (klist _ []) (addRaw M1.ρ tx rn tx).ei (addRaw M1.ρ tx rn tx).ci
          rw [hr1, ← hrn]; exact MapOf.empty
      · rcases hcase m hm with h | rfl
        · rw [hr2 _ (hnl m h), hkl _ fun k hk => by obtain ⟨x, h1, h2⟩ := (hI1.n.co m (hlv m h hs) k hk).2; rw [← h2]; exact hnl x (List.mem_append_left _ h1)]
          exact hI1.n.linv.mo m h hs
        · show MapOf _ (klist _ []) (addRaw M1.ρ tx rn tx).eo (addRaw M1.ρ tx rn tx).co
          rw [hr1, ← hrn]; exact MapOf.empty
      · rcases hcase m hm with h | rfl
        · rw [hr2 _ (hnl m h)]; exact hI1.n.bs m h
        · show SlI (bsOf g1.live) (addRaw M1.ρ tx rn tx).sv (addRaw M1.ρ tx rn tx).sb
          rw [hr1, ← hrn]; exact hB
    have hpn : (g1.addN tx ro).nodes.Perm (newN g1 tx ro :: g1.nodes) := by
      show (g1.live ++ [newN g1 tx ro] ++ g1.ended).Perm _
      rw [List.append_assoc]; exact List.perm_middle
    have hNC := NC_perm (ρ := addRaw M1.ρ tx rn) hpn
    have hNM := NM_perm (ρ := addRaw M1.ρ tx rn) hpn
    rw [NC_cons, NC_congr (ρ := M1.ρ) (l := g1.nodes) fun m hm => by rw [hr2 _ (hnl m hm)]; exact ⟨rfl, rfl⟩] at hNC
    rw [NM_cons, NM_congr (ρ := M1.ρ) (l := g1.nodes) fun m hm => hr2 _ (hnl m hm)] at hNM
    have hcb : cblk (addRaw M1.ρ tx rn) (newN g1 tx ro) = (nb, .cells [Value.int .i64 tx, .int .i64 g1.commits, .int .i64 0, .int .i64 0, .bool ro, .bool false, .map (some ma), .map (some mb), .int .i64 0, .int .i64 4611686018427387903, v].toArray 72) := by
      unfold cblk ncell mvN
      show ((addRaw M1.ρ tx rn tx).b, Obj.cells (Nd.cells (newN g1 tx ro) (if (0 : Int) = 2 then _ else .map (some (addRaw M1.ρ tx rn tx).mi)) (if (0 : Int) = 2 then _ else .map (some (addRaw M1.ρ tx rn tx).mo)) (addRaw M1.ρ tx rn tx).sv).toArray 72) = _
      rw [hr1, if_neg (by decide), if_neg (by decide), ← hrn]
      rfl
    have hnm : nmaps ((addRaw M1.ρ tx rn) (newN g1 tx ro).id) (newN g1 tx ro) = (ma, .map #[] 0) :: (mb, .map #[] 0) :: B := by
      unfold nmaps
      show (if (0 : Int) = 2 then _ else [((addRaw M1.ρ tx rn tx).mi, Obj.map (addRaw M1.ρ tx rn tx).ei (addRaw M1.ρ tx rn tx).ci), ((addRaw M1.ρ tx rn tx).mo, Obj.map (addRaw M1.ρ tx rn tx).eo (addRaw M1.ρ tx rn tx).co)]) ++ (addRaw M1.ρ tx rn tx).sb = _
      rw [hr1, if_neg (by decide), ← hrn]
      rfl
    rw [hcb] at hNC
    rw [hnm] at hNM
    have hmlp : putV (mlist M1.ρ g1.live) tx (.pointer (some ⟨nb, 0, none⟩)) = mlist (addRaw M1.ρ tx rn) (g1.addN tx ro).live := by
      have hno : hasK (mlist M1.ρ g1.live) tx = false := by
        rw [← lookV_isSome, lookV_mlist, findL_no fun m hm => hnl m (List.mem_append_left _ hm)]; rfl
      unfold putV
      rw [hno, if_neg (by decide)]
      show _ = (g1.live ++ [newN g1 tx ro]).map _
      rw [List.map_append]
      have h1 : mlist M1.ρ g1.live = g1.live.map fun n => (n.id, ptrB ((addRaw M1.ρ tx rn) n.id).b) := by
        unfold mlist
        apply List.map_congr_left
        intro m hm
        rw [hr2 _ (hnl m (List.mem_append_left _ hm))]
      rw [h1]
      congr 1
      show _ = [(tx, ptrB (addRaw M1.ρ tx rn tx).b)]
      rw [hr1, ← hrn]; rfl
    have hme : mlist M1.ρ g1.ended = mlist (addRaw M1.ρ tx rn) (g1.addN tx ro).ended := by
      show _ = mlist _ g1.ended
      unfold mlist
      apply List.map_congr_left
      intro m hm
      rw [hr2 _ (hnl m (List.mem_append_right _ hm))]
    rw [hmlp] at hm1
    have hI9 : Inv (K + 1) (g1.addN tx ro) { M1 with esl := es1, cl := c1, ρ := addRaw M1.ρ tx rn } := ⟨invN_of hgo hlin, hm1, by rw [← hme]; exact hI1.me⟩
    have hperm : ((M1.p, .cells [Value.int .i64 g1.most, .int .i64 g1.commits, .map (some M1.lm), .map (some M1.em)].toArray 66) :: (M1.lm, .map es1 c1) :: (M1.em, .map M1.ese M1.ce) :: (((nb, .cells [Value.int .i64 tx, .int .i64 g1.commits, .int .i64 0, .int .i64 0, .bool ro, .bool false, .map (some ma), .map (some mb), .int .i64 0, .int .i64 4611686018427387903, v].toArray 72) :: NC M1.ρ g1.nodes) ++ ((ma, .map #[] 0) :: (mb, .map #[] 0) :: B ++ NM M1.ρ g1.nodes))).Perm (blks (g1.addN tx ro) { M1 with esl := es1, cl := c1, ρ := addRaw M1.ρ tx rn }) :=
      (((hNC.append hNM).symm.cons _).cons _).cons _
    simp only [List.cons_append] at hperm
    (apply ret_ok'; (focus (exact Res.nil)); (exact ⟨_, hperm, rfl, _, rfl, hI9, rfl, hso⟩); (exact sel_); (exact appb_))
end Go.Proofs.Ytomgkmoecbnddaa
