/- Conflict: Prepare, Count, Live, Safe of the graph. -/
import Derived.Test.YtomgkmoecbnddaaU1
import Derived.Test.YtomgkmoecbnddaaV6
set_option linter.unusedVariables false
set_option linter.unusedSimpArgs false
set_option linter.unnecessarySimpa false
namespace Go.Proofs.Ytomgkmoecbnddaa
open Go.Sym
theorem prep_tri {K : Nat} {g : Gr} {M : Mem} (hI : Inv K g M) {tx : Int} :
    Tri Try.prog 23 #[.pointer (some ⟨M.p, 0, none⟩), .int .i64 tx] (blks g M) fun v L => v = .tuple #[] ∧ L = blks (g.prepQ tx) M ∧ Inv K (g.prepQ tx) M := by
  have f_mixed := mixed; have f_en30 := en30; have f_fo72_2 := fo72_2; have f_ty3 := ty3; have f_un_69 : Und Try.prog 69 _ := ⟨Try.underlying69⟩
  have hf1 := findG_tri hI (tx := tx)
  refine tri_intro (args := [_, _]) Try.func23 rfl Try.ntmps23 rfl (rs := []) rfl rfl fun E R => ?_
  simp only [fr, blks, hblk, gBlk, List.cons_append, List.nil_append, List.append_assoc]
  cases h1 : findL g.nodes tx with
  | none =>
    have e1 : g.prepQ tx = g := by unfold Gr.prepQ; rw [h1]
    rw [e1]
    rw [h1] at hf1
    simp only [ptrO] at hf1
    (refine sr_ ?_; (refine mv_ ?_); (refine mv_ ?_); (apply so_callq; (exact Ev.func); (focus ((apply EvL.cons; (exact ev_)); (apply EvL.cons; (exact ev_)); exact EvL.nil)); (focus (repeat (first | exact App.nil | apply App.cons))); assumption; exact hf1; (exact sel_); exact rfl); (refine asg_ ?_); refine sn_ ?_; refine sr_ ?_; (refine mv_ ?_); (refine se_ (ex_nep_f ev_ .const asm_) ?_); (refine mv_ ?_); (refine sk_ ?_); (refine sk_ ?_); (refine sk_ ?_); (refine sk_ ?_); (refine sk_ ?_); (refine se_ (ex_pick_f ev_ .const) ?_); refine sn_ ?_; (refine cf_ ?_); (apply sc_skip); (apply ret_ok'; (focus (exact Res.nil)); (exact ⟨rfl, rfl, hI⟩); (exact sel_); (exact appb_)))
  | some n =>
    rw [h1] at hf1
    simp only [ptrO] at hf1
    obtain ⟨hn, hnid⟩ := findL_some h1
    have hnc := nb_cell (ρ := M.ρ) hn
    simp only [ncell, Nd.cells] at hnc
    by_cases h0 : n.state = 0
    · have e1 : g.prepQ tx = g.upd (at1 tx) setAsk := by unfold Gr.prepQ; rw [h1]; dsimp only; rw [if_pos h0]
      rw [e1]
      have hT0 := turn_cell (ρ := M.ρ) (f := setAsk) hn hI.n.nd (setAsk_id n)
      rw [hnid] at hT0 hnc hf1
      have e4 : ncell (M.ρ tx) (setAsk n) = Nd.cells { n with state := 1 } (.map (some (M.ρ tx).mi)) (.map (some (M.ρ tx).mo)) (M.ρ tx).sv := by
        have e5 : setAsk n = { n with state := 1 } := by unfold setAsk; rw [if_neg (by rw [h0]; decide)]
        rw [e5]; rfl
      have e6 : ncell (M.ρ tx) n = Nd.cells n (.map (some (M.ρ tx).mi)) (.map (some (M.ρ tx).mo)) (M.ρ tx).sv := by unfold ncell mvN; simp only [h0]; rfl
      rw [e4, e6] at hT0
      rw [show mvN n (M.ρ tx).mi = .map (some (M.ρ tx).mi) from by unfold mvN; rw [if_neg (by rw [h0]; decide)], show mvN n (M.ρ tx).mo = .map (some (M.ρ tx).mo) from by unfold mvN; rw [if_neg (by rw [h0]; decide)]] at hnc
      simp only [Nd.cells] at hT0
      have hNM : NM M.ρ (g.upd (at1 tx) setAsk).nodes = NM M.ρ g.nodes := by
        rw [upd_nodes, NM_upd setAsk_id setAsk_two]
      rw [upd_nodes] at hNM
      simp only [upd_nodes]
      rw [hNM]
      have hInv : Inv K (g.upd (at1 tx) setAsk) M := hI.keep setAsk_keep
      (refine sr_ ?_; (refine mv_ ?_); (refine mv_ ?_); (apply so_callq; (exact Ev.func); (focus ((apply EvL.cons; (exact ev_)); (apply EvL.cons; (exact ev_)); exact EvL.nil)); (focus (repeat (first | exact App.nil | apply App.cons))); assumption; exact hf1; (exact sel_); exact rfl); (refine asg_ ?_); refine sn_ ?_; refine sr_ ?_; (refine mv_ ?_); (refine se_ (ex_nep_t ev_ .const asm_) ?_); (refine mv_ ?_); (refine wt_ ?_); (refine mv_ ?_); (refine wt_ ?_); (refine se_ (ex_nilCheck ev_) ?_); (refine wt_ ?_); (refine se_ (ex_fieldAddr ev_ asm_) ?_); (refine wt_ ?_); (refine se_ (ex_load1 ev_ asm_ mem_ nth_) ?_); (refine wt_ ?_); (refine se_ (ex_eql_t ev_ .const om_) ?_); (refine se_ (ex_pick_t ev_ ev_) ?_); refine sn_ ?_; (refine ct_ ?_); (apply sc_region); (refine mv_ ?_); (refine se_ (ex_nilCheck ev_) ?_); (refine se_ (ex_fieldAddr ev_ asm_) ?_); (apply so_store; (exact ev_); (exact Ev.const); assumption; exact rfl; exact rfl; exact rfl; (repeat (first | exact Turn.left hT0 _ | apply Turn.there | apply Turn.pre)); (focus (repeat (first | exact SetSub.nil | apply SetSub.take | apply SetSub.drop)))); (apply so_nil); (apply ret_ok'; (focus (exact Res.nil)); (exact ⟨rfl, rfl, hInv⟩); (exact sel_); (exact appb_)))
    · have e1 : g.prepQ tx = g := by unfold Gr.prepQ; rw [h1]; dsimp only; rw [if_neg h0]
      rw [e1]
      (refine sr_ ?_; (refine mv_ ?_); (refine mv_ ?_); (apply so_callq; (exact Ev.func); (focus ((apply EvL.cons; (exact ev_)); (apply EvL.cons; (exact ev_)); exact EvL.nil)); (focus (repeat (first | exact App.nil | apply App.cons))); assumption; exact hf1; (exact sel_); exact rfl); (refine asg_ ?_); refine sn_ ?_; refine sr_ ?_; (refine mv_ ?_); (refine se_ (ex_nep_t ev_ .const asm_) ?_); (refine mv_ ?_); (refine wt_ ?_); (refine mv_ ?_); (refine wt_ ?_); (refine se_ (ex_nilCheck ev_) ?_); (refine wt_ ?_); (refine se_ (ex_fieldAddr ev_ asm_) ?_); (refine wt_ ?_); (refine se_ (ex_load1 ev_ asm_ mem_ nth_) ?_); (refine wt_ ?_); (refine se_ (ex_eql_f ev_ .const om_) ?_); (refine se_ (ex_pick_t ev_ ev_) ?_); refine sn_ ?_; (refine cf_ ?_); (apply sc_skip); (apply ret_ok'; (focus (exact Res.nil)); (exact ⟨rfl, rfl, hI⟩); (exact sel_); (exact appb_)))
theorem prepR1_tri {K : Nat} {g : Gr} {p : Nat} {L : List Blk} (hR : GRep K g p L) {a : Int} :
    Tri Try.prog 23 #[.pointer (some ⟨p, 0, none⟩), .int .i64 a] L fun v L' => v = .tuple #[] ∧ GRep K (g.prepQ a) p L' := by
  rcases hR with ⟨hg, rfl⟩ | ⟨M, rfl, rfl, hI, hS⟩
  · have e1 : g.prepQ a = g := by rw [hg]; rfl
    rw [e1]
    have hn := GRep.new (K := K) p g.most
    rw [← hg] at hn
    generalize g.most = most at *
    have f_mixed := mixed; have f_en30 := en30; have f_fo72_2 := fo72_2; have f_ty3 := ty3; have f_un_69 : Und Try.prog 69 _ := ⟨Try.underlying69⟩
    have hf1 := findF_tri (p := p) (most := most) (tx := a)
    refine tri_intro (args := [_, _]) Try.func23 rfl Try.ntmps23 rfl (rs := []) rfl rfl fun E R => ?_
    simp only [fr, fblk, List.cons_append, List.nil_append] at hf1 hn ⊢
    (refine sr_ ?_; (refine mv_ ?_); (refine mv_ ?_); (apply so_callq; (exact Ev.func); (focus ((apply EvL.cons; (exact ev_)); (apply EvL.cons; (exact ev_)); exact EvL.nil)); (focus (repeat (first | exact App.nil | apply App.cons))); assumption; exact hf1; (exact sel_); exact rfl); (refine asg_ ?_); refine sn_ ?_; refine sr_ ?_; (refine mv_ ?_); (refine se_ (ex_nep_f ev_ .const asm_) ?_); (refine mv_ ?_); (refine sk_ ?_); (refine sk_ ?_); (refine sk_ ?_); (refine sk_ ?_); (refine sk_ ?_); (refine se_ (ex_pick_f ev_ .const) ?_); refine sn_ ?_; (refine cf_ ?_); (apply sc_skip); (apply ret_ok'; (focus (exact Res.nil)); (exact ⟨rfl, hn⟩); (exact sel_); (exact appb_)))
  · refine (prep_tri hI).mono fun _ _ ⟨h1, h2, h3⟩ => ⟨h1, .inr ⟨M, rfl, h2, h3, ?_⟩⟩
    unfold Gr.prepQ
    cases findL g.nodes a with
    | none => exact hS
    | some n =>
      dsimp only
      split
      · exact hS.upd (f := setAsk) fun n => by unfold setAsk; split <;> exact ⟨rfl, rfl, rfl⟩
      · exact hS
theorem countR_tri {K : Nat} {g : Gr} {p : Nat} {L : List Blk} (hR : GRep K g p L) (hm : g.most ≤ 1000000) : TriQ Try.prog 20 #[.pointer (some ⟨p, 0, none⟩)] L (.int .i64 g.countQ) := by
  unfold Gr.countQ
  rcases hR with ⟨hg, rfl⟩ | ⟨M, rfl, rfl, hI, hS⟩
  · have e1 : g.live.length = 0 := by rw [hg]; rfl
    have e2 : g.ended.length = 0 := by rw [hg]; rfl
    rw [e1, e2]
    generalize g.most = most at *
    have f_mixed := mixed; have f_fo66_0 := fo66_0; have f_fo66_2 := fo66_2; have f_fo66_3 := fo66_3; have f_ty3 := ty3; have f_ty64 := ty64; have f_ty69 := ty69; have f_un_34 : Und Try.prog 34 _ := ⟨Try.underlying34⟩; have f_un_64 : Und Try.prog 64 _ := ⟨Try.underlying64⟩; have f_zero69 := zero69; have f_zv69 := zv69
    refine tri_intro (args := [_]) Try.func20 rfl Try.ntmps20 rfl (rs := _) rfl rfl fun E R => ?_
    simp only [fr, fblk, List.cons_append, List.nil_append]
    (refine sr_ ?_; (refine ac_ ?_); refine sn_ ?_; (apply sc_seq); refine sr_ ?_; (refine mv_ ?_); (refine se_ (ex_eqp_f ev_ .const asm_) ?_); refine sn_ ?_; (refine cf_ ?_); (apply sc_skip); (apply nm_then); (apply sc_seq); (apply sc_quiet (id := 3); assumption; kernel_rfl); (refine qe_ (ex_move ev_) ?_); (refine qe_ (ex_nilCheck ev_) ?_); (refine qe_ (ex_fieldAddr ev_ asm_) ?_); (refine qe_ (ex_load1 ev_ asm_ mem_ nth_) ?_); (refine qe_ (ex_len_map_nil ev_ asm_) ?_); (refine qe_ (ex_move ev_) ?_); (refine qe_ (ex_nilCheck ev_) ?_); (refine qe_ (ex_fieldAddr ev_ asm_) ?_); (refine qe_ (ex_load1 ev_ asm_ mem_ nth_) ?_); (refine qe_ (ex_move ev_) ?_); (refine qe_ (ex_nilCheck ev_) ?_); (refine qe_ (ex_fieldAddr ev_ asm_) ?_); (refine qe_ (ex_load1 ev_ asm_ mem_ nth_) ?_); (refine qe_ (ex_len_map_nil ev_ asm_) ?_); (apply sq_ex; (apply ex_min; (exact ev_); (exact ev_); (first | assumption | exact rfl)); exact rfl); (apply sq_ex; (apply ex_max; ((exact Ev.const)); (exact ev_); (first | assumption | exact rfl)); exact rfl); (refine qe_ (ex_add ev_ ev_ wr_) ?_); (refine qe_ (ex_assign ev_) ?_); (apply sq_nil); (apply nm_then); (apply sc_ret))
    (apply ret_ok; (focus ((apply Res.tmp; (exact ev_)); exact Res.nil)); (exact ⟨by show Value.int .i64 _ = Value.int .i64 _; congr 1; (try unfold mlist); (try simp only [List.length_map]); omega, rfl⟩); (exact sel_); (exact appb_))
  · have f_mixed := mixed; have f_fo66_0 := fo66_0; have f_fo66_2 := fo66_2; have f_fo66_3 := fo66_3; have f_ty3 := ty3; have f_ty64 := ty64; have f_ty69 := ty69; have f_un_34 : Und Try.prog 34 _ := ⟨Try.underlying34⟩; have f_un_64 : Und Try.prog 64 _ := ⟨Try.underlying64⟩; have f_zero69 := zero69; have f_zv69 := zv69
    have hml := hI.ml
    have hme := hI.me
    refine tri_intro (args := [_]) Try.func20 rfl Try.ntmps20 rfl (rs := _) rfl rfl fun E R => ?_
    simp only [fr, blks, hblk, gBlk, List.cons_append, List.nil_append, List.append_assoc]
    (refine sr_ ?_; (refine ac_ ?_); refine sn_ ?_; (apply sc_seq); refine sr_ ?_; (refine mv_ ?_); (refine se_ (ex_eqp_f ev_ .const asm_) ?_); refine sn_ ?_; (refine cf_ ?_); (apply sc_skip); (apply nm_then); (apply sc_seq); (apply sc_quiet (id := 3); assumption; kernel_rfl); (refine qe_ (ex_move ev_) ?_); (refine qe_ (ex_nilCheck ev_) ?_); (refine qe_ (ex_fieldAddr ev_ asm_) ?_); (refine qe_ (ex_load1 ev_ asm_ mem_ nth_) ?_); (refine qe_ (ex_len_map ev_ mem_ asm_ asm_) ?_); (refine qe_ (ex_move ev_) ?_); (refine qe_ (ex_nilCheck ev_) ?_); (refine qe_ (ex_fieldAddr ev_ asm_) ?_); (refine qe_ (ex_load1 ev_ asm_ mem_ nth_) ?_); (refine qe_ (ex_move ev_) ?_); (refine qe_ (ex_nilCheck ev_) ?_); (refine qe_ (ex_fieldAddr ev_ asm_) ?_); (refine qe_ (ex_load1 ev_ asm_ mem_ nth_) ?_); (refine qe_ (ex_len_map ev_ mem_ asm_ asm_) ?_); (apply sq_ex; (apply ex_min; (exact ev_); (exact ev_); (first | assumption | exact rfl)); exact rfl); (apply sq_ex; (apply ex_max; ((exact Ev.const)); (exact ev_); (first | assumption | exact rfl)); exact rfl); (refine qe_ (ex_add ev_ ev_ wr_) ?_); (refine qe_ (ex_assign ev_) ?_); (apply sq_nil); (apply nm_then); (apply sc_ret))
    have hsz := hI.n.sz
    (apply ret_ok; (focus ((apply Res.tmp; (exact ev_)); exact Res.nil)); (exact ⟨by show Value.int .i64 _ = Value.int .i64 _; congr 1; unfold mlist; simp only [List.length_map]; rw [wrap_in (by unfold InI; omega)]; omega, rfl⟩); (exact sel_); (exact appb_))
theorem live_tri {K : Nat} {g : Gr} {M : Mem} (hI : Inv K g M) {tx : Int} : TriQ Try.prog 24 #[.pointer (some ⟨M.p, 0, none⟩), .int .i64 tx] (blks g M) (.bool (g.liveQ tx)) := by
  have f_mixed := mixed; have f_en30 := en30; have f_fo66_2 := fo66_2; have f_fo72_1 := fo72_1; have f_fo72_2 := fo72_2; have f_fo72_3 := fo72_3; have f_fo72_4 := fo72_4; have f_ty3 := ty3; have f_ty4 := ty4; have f_ty64 := ty64; have f_ty69 := ty69; have f_un_64 : Und Try.prog 64 _ := ⟨Try.underlying64⟩; have f_un_69 : Und Try.prog 69 _ := ⟨Try.underlying69⟩; have f_zero69 := zero69; have f_zv69 := zv69
  have f_kl := KL3
  have hf1 := findG_tri hI (tx := tx)
  have hml := hI.ml
  refine tri_intro (args := [_, _]) Try.func24 rfl Try.ntmps24 rfl (rs := _) rfl rfl fun E R => ?_
  simp only [fr, blks, hblk, gBlk, List.cons_append, List.nil_append, List.append_assoc]
  cases h1 : findL g.nodes tx with
  | none =>
    have e1 : g.liveQ tx = false := by unfold Gr.liveQ; rw [h1]
    rw [e1]
    rw [h1] at hf1
    simp only [ptrO] at hf1
    (refine sr_ ?_; (refine ac_ ?_); refine sn_ ?_; refine sr_ ?_; (refine mv_ ?_); (refine mv_ ?_); (apply so_callq; (exact Ev.func); (focus ((apply EvL.cons; (exact ev_)); (apply EvL.cons; (exact ev_)); exact EvL.nil)); (focus (repeat (first | exact App.nil | apply App.cons))); assumption; exact hf1; (exact sel_); exact rfl); (refine asg_ ?_); refine sn_ ?_; (apply sc_seq); refine sr_ ?_; (refine mv_ ?_); (refine se_ (ex_eqp_t ev_ .const asm_) ?_); (refine mv_ ?_); (refine sk_ ?_); (refine sk_ ?_); (refine sk_ ?_); (refine sk_ ?_); (refine sk_ ?_); (refine se_ (ex_pick_t ev_ .const) ?_); refine sn_ ?_; (refine ct_ ?_); refine sr_ ?_; (refine mv_ ?_); (refine se_ (ex_nep_f ev_ .const asm_) ?_); (refine asg_ ?_); refine sn_ ?_; (apply sc_ret); (apply rt_then); (apply ret_ok; (focus ((apply Res.tmp; (exact ev_)); exact Res.nil)); (exact ⟨rfl, rfl⟩); (exact sel_); (exact appb_)))
  | some n =>
    rw [h1] at hf1
    simp only [ptrO] at hf1
    obtain ⟨hn, hnid⟩ := findL_some h1
    have hnc := nb_cell (ρ := M.ρ) hn
    simp only [ncell, Nd.cells] at hnc
    by_cases h2 : n.state = 2
    · have e1 : g.liveQ tx = g.live.any fun x => !x.ro && decide (x.begin_ < n.seq) := by unfold Gr.liveQ; rw [h1]; dsimp only; rw [if_neg (fun e => e h2)]
      rw [e1]
      (refine sr_ ?_; (refine ac_ ?_); refine sn_ ?_; refine sr_ ?_; (refine mv_ ?_); (refine mv_ ?_); (apply so_callq; (exact Ev.func); (focus ((apply EvL.cons; (exact ev_)); (apply EvL.cons; (exact ev_)); exact EvL.nil)); (focus (repeat (first | exact App.nil | apply App.cons))); assumption; exact hf1; (exact sel_); exact rfl); (refine asg_ ?_); refine sn_ ?_; (apply sc_seq); refine sr_ ?_; (refine mv_ ?_); (refine se_ (ex_eqp_f ev_ .const asm_) ?_); (refine mv_ ?_); (refine wt_ ?_); (refine mv_ ?_); (refine wt_ ?_); (refine se_ (ex_nilCheck ev_) ?_); (refine wt_ ?_); (refine se_ (ex_fieldAddr ev_ asm_) ?_); (refine wt_ ?_); (refine se_ (ex_load1 ev_ asm_ mem_ nth_) ?_); (refine wt_ ?_); (refine se_ (ex_neq_f ev_ .const om_) ?_); (refine se_ (ex_pick_f ev_ ev_) ?_); refine sn_ ?_; (refine cf_ ?_); (apply sc_skip); (apply nm_then); (apply sc_seq); refine sr_ ?_; (refine mv_ ?_); (refine se_ (ex_nilCheck ev_) ?_); (refine se_ (ex_fieldAddr ev_ asm_) ?_); (refine se_ (ex_load1 ev_ asm_ mem_ nth_) ?_); (apply so_range; (exact ev_); (exact mem_); assumption; exact rfl; intro _); refine sn_ ?_; (apply sc_block))
      rename_i r
      refine sc_loop (fun k f L => ∃ seen vis, At f 0 (.pointer (some ⟨M.p, 0, none⟩)) ∧ At f 5 (.pointer (some ⟨(M.ρ n.id).b, 0, none⟩)) ∧ At f 26 (.pointer (some ⟨r, 0, none⟩)) ∧ Iter (Value.int .i64) M.esl M.cl seen vis ∧ (∀ x ∈ g.live, x.id ∈ vis → (!x.ro && decide (x.begin_ < n.seq)) = false) ∧ (∀ x ∈ vis, x ∈ g.live.map (·.id)) ∧ k = ((g.live.map (·.id)).filter fun x => decide (x ∉ vis)).length ∧
        Held L ((r, .mapIter (some M.lm) M.cl seen M.cl) :: (M.p, .cells [Value.int .i64 g.most, .int .i64 g.commits, .map (some M.lm), .map (some M.em)].toArray 66) :: (M.lm, .map M.esl M.cl) :: (M.em, .map M.ese M.ce) :: (NC M.ρ g.nodes ++ NM M.ρ g.nodes)) R)
        _ ⟨#[], [], at_, at_, at_, Iter.start hml, by simp, by simp, rfl, held_⟩ ?_
      rintro k f L ⟨seen, vis, a0, a5, a26, hIt, hno, hsub, hk, ⟨G, hG⟩⟩
      refine sc_perm hG ?_
      simp only [List.cons_append, List.nil_append, List.append_assoc]
      ((apply sc_seq); (apply sc_region))
      apply so_nxt; (exact ev_); (intro _; (focus (repeat (first | exact Turn.here | apply Turn.there | apply Turn.pre)))); (exact mem_); assumption; assumption; (exact Nat.le_refl _); (exact ci_inj); exact rfl
      · intro hall
        have hfin : (g.live.any fun x => !x.ro && decide (x.begin_ < n.seq)) = false := by
          rw [List.any_eq_false]
          intro x hx
          have := hall (x.id, ptrB (M.ρ x.id).b) (List.mem_map.2 ⟨x, hx, rfl⟩)
          rw [hno x hx this]
          decide
        rw [hfin]
        ((refine se_ (ex_extract ev_ nth_) ?_); refine sn_ ?_; (apply sc_seq); (refine cf_ ?_); (apply sc_exit); (apply et_then); (apply et_then); (apply et_hit); (apply nm_then); refine sr_ ?_; (refine ac_ ?_); refine sn_ ?_; (apply sc_ret); (apply ret_ok; (focus ((apply Res.tmp; (exact ev_)); exact Res.nil)); (exact ⟨rfl, rfl⟩); (exact sel_); (exact appb_)))
      · rintro ⟨k1, v1⟩ seen' hp hnv hI' hcur
        simp only at hnv hI' hcur
        obtain ⟨x, hx, e⟩ := List.mem_map.1 hp
        injection e with e1 e2
        subst e1 e2
        have hxc := nb_cell (ρ := M.ρ) (l := g.nodes) (List.mem_append_left _ hx)
        simp only [ncell, Nd.cells] at hxc
        have hnd : (g.live.map (·.id)).Nodup := by have := hI.n.nd; unfold Gr.nodes at this; rw [List.map_append, List.nodup_append] at this; exact this.1
        have hkm : x.id ∈ g.live.map (·.id) := List.mem_map.2 ⟨x, hx, rfl⟩
        have hno2 : (!x.ro && decide (x.begin_ < n.seq)) = false → ∀ y ∈ g.live, y.id ∈ x.id :: vis → (!y.ro && decide (y.begin_ < n.seq)) = false := fun h y hy hyv => by
          rcases List.mem_cons.1 hyv with e | e
          · rw [nodup_nd hnd hy hx e]; exact h
          · exact hno y hy e
        cases hro : x.ro with
        | true =>
          rw [hro] at hxc
          ((refine se_ (ex_extract ev_ nth_) ?_); refine sn_ ?_; (apply sc_seq); (refine ct_ ?_); (apply sc_skip); (apply nm_then); (apply sc_block); refine sr_ ?_; (refine se_ (ex_ent ev_ mem_ mem_ asm_ asm_) ?_); (refine se_ (ex_extract ev_ nth_) ?_); (refine asg_ ?_); refine sn_ ?_; (apply sc_seq); (apply sc_quiet (id := 7); assumption; kernel_rfl); (refine qe_ (ex_move ev_) ?_); (refine qe_ (ex_nilCheck ev_) ?_); (refine qe_ (ex_fieldAddr ev_ asm_) ?_); (refine qe_ (ex_load1 ev_ asm_ mem_ nth_) ?_); (refine qe_ (ex_not ev_) ?_); (refine qe_ (ex_move ev_) ?_); (refine qs_ ?_); (refine qs_ ?_); (refine qs_ ?_); (refine qs_ ?_); (refine qs_ ?_); (refine qs_ ?_); (refine qs_ ?_); (refine qs_ ?_); (refine qs_ ?_); (refine qe_ (ex_pick_f ev_ .const) ?_); (apply sq_nil); (apply nm_then); (refine cf_ ?_); (apply sc_skip); (apply nm_block); (apply nm_then))
          exact ⟨_, by rw [hk]; exact unseen_lt hkm hnv, seen', x.id :: vis, at_, at_, at_, hI', hno2 (by rw [hro]; rfl), List.forall_mem_cons.2 ⟨hkm, hsub⟩, rfl, held_⟩
        | false =>
          rw [hro] at hxc
          by_cases hlt : x.begin_ < n.seq
          · have : (g.live.any fun x => !x.ro && decide (x.begin_ < n.seq)) = true := List.any_eq_true.2 ⟨x, hx, by rw [hro, decide_eq_true hlt]; rfl⟩
            rw [this]
            ((refine se_ (ex_extract ev_ nth_) ?_); refine sn_ ?_; (apply sc_seq); (refine ct_ ?_); (apply sc_skip); (apply nm_then); (apply sc_block); refine sr_ ?_; (refine se_ (ex_ent ev_ mem_ mem_ asm_ asm_) ?_); (refine se_ (ex_extract ev_ nth_) ?_); (refine asg_ ?_); refine sn_ ?_; (apply sc_seq); (apply sc_quiet (id := 7); assumption; kernel_rfl); (refine qe_ (ex_move ev_) ?_); (refine qe_ (ex_nilCheck ev_) ?_); (refine qe_ (ex_fieldAddr ev_ asm_) ?_); (refine qe_ (ex_load1 ev_ asm_ mem_ nth_) ?_); (refine qe_ (ex_not ev_) ?_); (refine qe_ (ex_move ev_) ?_); (refine qw_ ?_); (refine qe_ (ex_move ev_) ?_); (refine qw_ ?_); (refine qe_ (ex_nilCheck ev_) ?_); (refine qw_ ?_); (refine qe_ (ex_fieldAddr ev_ asm_) ?_); (refine qw_ ?_); (refine qe_ (ex_load1 ev_ asm_ mem_ nth_) ?_); (refine qw_ ?_); (refine qe_ (ex_move ev_) ?_); (refine qw_ ?_); (refine qe_ (ex_nilCheck ev_) ?_); (refine qw_ ?_); (refine qe_ (ex_fieldAddr ev_ asm_) ?_); (refine qw_ ?_); (refine qe_ (ex_load1 ev_ asm_ mem_ nth_) ?_); (refine qw_ ?_); (refine qe_ (ex_lss_t ev_ ev_ om_) ?_); (refine qe_ (ex_pick_t ev_ ev_) ?_); (apply sq_nil); (apply nm_then); (refine ct_ ?_); refine sr_ ?_; (refine ac_ ?_); refine sn_ ?_; (apply sc_ret); (apply rt_block); (apply rt_then); (apply rt_block); (apply rt_then); (apply ret_ok; (focus ((apply Res.tmp; (exact ev_)); exact Res.nil)); (exact ⟨rfl, rfl⟩); (exact sel_); (exact appb_)))
          · ((refine se_ (ex_extract ev_ nth_) ?_); refine sn_ ?_; (apply sc_seq); (refine ct_ ?_); (apply sc_skip); (apply nm_then); (apply sc_block); refine sr_ ?_; (refine se_ (ex_ent ev_ mem_ mem_ asm_ asm_) ?_); (refine se_ (ex_extract ev_ nth_) ?_); (refine asg_ ?_); refine sn_ ?_; (apply sc_seq); (apply sc_quiet (id := 7); assumption; kernel_rfl); (refine qe_ (ex_move ev_) ?_); (refine qe_ (ex_nilCheck ev_) ?_); (refine qe_ (ex_fieldAddr ev_ asm_) ?_); (refine qe_ (ex_load1 ev_ asm_ mem_ nth_) ?_); (refine qe_ (ex_not ev_) ?_); (refine qe_ (ex_move ev_) ?_); (refine qw_ ?_); (refine qe_ (ex_move ev_) ?_); (refine qw_ ?_); (refine qe_ (ex_nilCheck ev_) ?_); (refine qw_ ?_); (refine qe_ (ex_fieldAddr ev_ asm_) ?_); (refine qw_ ?_); (refine qe_ (ex_load1 ev_ asm_ mem_ nth_) ?_); (refine qw_ ?_); (refine qe_ (ex_move ev_) ?_); (refine qw_ ?_); (refine qe_ (ex_nilCheck ev_) ?_); (refine qw_ ?_); (refine qe_ (ex_fieldAddr ev_ asm_) ?_); (refine qw_ ?_); (refine qe_ (ex_load1 ev_ asm_ mem_ nth_) ?_); (refine qw_ ?_); (refine qe_ (ex_lss_f ev_ ev_ om_) ?_); (refine qe_ (ex_pick_t ev_ ev_) ?_); (apply sq_nil); (apply nm_then); (refine cf_ ?_); (apply sc_skip); (apply nm_block); (apply nm_then))
            exact ⟨_, by rw [hk]; exact unseen_lt hkm hnv, seen', x.id :: vis, at_, at_, at_, hI', hno2 (by rw [decide_eq_false hlt, Bool.and_false]), List.forall_mem_cons.2 ⟨hkm, hsub⟩, rfl, held_⟩
    · have e1 : g.liveQ tx = true := by unfold Gr.liveQ; rw [h1]; dsimp only; rw [if_pos h2]
      rw [e1]
      (refine sr_ ?_; (refine ac_ ?_); refine sn_ ?_; refine sr_ ?_; (refine mv_ ?_); (refine mv_ ?_); (apply so_callq; (exact Ev.func); (focus ((apply EvL.cons; (exact ev_)); (apply EvL.cons; (exact ev_)); exact EvL.nil)); (focus (repeat (first | exact App.nil | apply App.cons))); assumption; exact hf1; (exact sel_); exact rfl); (refine asg_ ?_); refine sn_ ?_; (apply sc_seq); refine sr_ ?_; (refine mv_ ?_); (refine se_ (ex_eqp_f ev_ .const asm_) ?_); (refine mv_ ?_); (refine wt_ ?_); (refine mv_ ?_); (refine wt_ ?_); (refine se_ (ex_nilCheck ev_) ?_); (refine wt_ ?_); (refine se_ (ex_fieldAddr ev_ asm_) ?_); (refine wt_ ?_); (refine se_ (ex_load1 ev_ asm_ mem_ nth_) ?_); (refine wt_ ?_); (refine se_ (ex_neq_t ev_ .const om_) ?_); (refine se_ (ex_pick_f ev_ ev_) ?_); refine sn_ ?_; (refine ct_ ?_); refine sr_ ?_; (refine mv_ ?_); (refine se_ (ex_nep_t ev_ .const asm_) ?_); (refine asg_ ?_); refine sn_ ?_; (apply sc_ret); (apply rt_then); (apply ret_ok; (focus ((apply Res.tmp; (exact ev_)); exact Res.nil)); (exact ⟨rfl, rfl⟩); (exact sel_); (exact appb_)))
theorem liveR1_tri {K : Nat} {g : Gr} {p : Nat} {L : List Blk} (hR : GRep K g p L) {tx : Int} : TriQ Try.prog 24 #[.pointer (some ⟨p, 0, none⟩), .int .i64 tx] L (.bool (g.liveQ tx)) := by
  rcases hR with ⟨hg, rfl⟩ | ⟨M, rfl, rfl, hI, hS⟩
  · have e : g.liveQ tx = false := by rw [hg]; rfl
    rw [e]
    generalize g.most = most
    have f_mixed := mixed; have f_en30 := en30; have f_fo66_2 := fo66_2; have f_fo72_1 := fo72_1; have f_fo72_2 := fo72_2; have f_fo72_3 := fo72_3; have f_fo72_4 := fo72_4; have f_ty3 := ty3; have f_ty4 := ty4; have f_ty64 := ty64; have f_ty69 := ty69; have f_un_64 : Und Try.prog 64 _ := ⟨Try.underlying64⟩; have f_un_69 : Und Try.prog 69 _ := ⟨Try.underlying69⟩; have f_zero69 := zero69; have f_zv69 := zv69
    have hf := findF_tri (p := p) (most := most) (tx := tx)
    refine tri_intro (args := [_, _]) Try.func24 rfl Try.ntmps24 rfl (rs := _) rfl rfl fun E R => ?_
    simp only [fr, fblk, List.cons_append, List.nil_append] at hf ⊢
    (refine sr_ ?_; (refine ac_ ?_); refine sn_ ?_; refine sr_ ?_; (refine mv_ ?_); (refine mv_ ?_); (apply so_callq; (exact Ev.func); (focus ((apply EvL.cons; (exact ev_)); (apply EvL.cons; (exact ev_)); exact EvL.nil)); (focus (repeat (first | exact App.nil | apply App.cons))); assumption; exact hf; (exact sel_); exact rfl); (refine asg_ ?_); refine sn_ ?_; (apply sc_seq); refine sr_ ?_; (refine mv_ ?_); (refine se_ (ex_eqp_t ev_ .const asm_) ?_); (refine mv_ ?_); (refine sk_ ?_); (refine sk_ ?_); (refine sk_ ?_); (refine sk_ ?_); (refine sk_ ?_); (refine se_ (ex_pick_t ev_ .const) ?_); refine sn_ ?_; (refine ct_ ?_); refine sr_ ?_; (refine mv_ ?_); (refine se_ (ex_nep_f ev_ .const asm_) ?_); (refine asg_ ?_); refine sn_ ?_; (apply sc_ret); (apply rt_then); (apply ret_ok; (focus ((apply Res.tmp; (exact ev_)); exact Res.nil)); (exact ⟨rfl, rfl⟩); (exact sel_); (exact appb_)))
  · exact live_tri hI
end Go.Proofs.Ytomgkmoecbnddaa
namespace Go.Proofs.Ytomgkmoecbnddaa
open Go.Sym
set_option maxHeartbeats 8000000 in
theorem safe_tri {K : Nat} {g : Gr} {M : Mem} (hI : Inv K g M) (hbl : ∀ n ∈ g.nodes, n.beside.length ≤ 1000000) {tx : Int} : TriQ Try.prog 18 #[.pointer (some ⟨M.p, 0, none⟩), .int .i64 tx] (blks g M) (.tuple #[.bool (g.safeQ tx).1, .bool (g.safeQ tx).2]) := by
  have f_mixed := mixed; have f_by3 := by3; have f_en30 := en30; have f_fo66_2 := fo66_2; have f_fo66_3 := fo66_3; have f_fo72_1 := fo72_1; have f_fo72_10 := fo72_10; have f_fo72_2 := fo72_2; have f_fo72_4 := fo72_4; have f_fo72_9 := fo72_9; have f_ty25 := ty25; have f_ty3 := ty3; have f_ty4 := ty4; have f_ty64 := ty64; have f_ty69 := ty69; have f_un_25 : Und Try.prog 25 _ := ⟨Try.underlying25⟩; have f_un_64 : Und Try.prog 64 _ := ⟨Try.underlying64⟩; have f_un_69 : Und Try.prog 69 _ := ⟨Try.underlying69⟩; have f_zero3 := zero3; have f_zero69 := zero69; have f_zv3 := zv3; have f_zv69 := zv69
  have f_kl := KL3
  have hf1 := findG_tri hI (tx := tx)
  have hml := hI.ml
  have hme := hI.me
  refine tri_intro (args := [_, _]) Try.func18 rfl Try.ntmps18 rfl (rs := _) rfl rfl fun E R => ?_
  simp only [fr, blks, hblk, gBlk, List.cons_append, List.nil_append, List.append_assoc]
  cases h1 : findL g.nodes tx with
  | none =>
    have e1 : g.safeQ tx = (false, false) := by unfold Gr.safeQ; rw [h1]
    rw [e1]
    rw [h1] at hf1
    simp only [ptrO] at hf1
    (refine sr_ ?_; (refine ac_ ?_); (refine ac_ ?_); refine sn_ ?_; refine sr_ ?_; (refine mv_ ?_); (refine mv_ ?_); (apply so_callq; (exact Ev.func); (focus ((apply EvL.cons; (exact ev_)); (apply EvL.cons; (exact ev_)); exact EvL.nil)); (focus (repeat (first | exact App.nil | apply App.cons))); assumption; exact hf1; (exact sel_); exact rfl); (refine asg_ ?_); refine sn_ ?_; (apply sc_seq); refine sr_ ?_; (refine mv_ ?_); (refine se_ (ex_eqp_t ev_ .const asm_) ?_); (refine mv_ ?_); (refine sk_ ?_); (refine sk_ ?_); (refine sk_ ?_); (refine sk_ ?_); (refine sk_ ?_); (refine se_ (ex_pick_t ev_ .const) ?_); (refine mv_ ?_); (refine sk_ ?_); (refine sk_ ?_); (refine sk_ ?_); (refine sk_ ?_); (refine sk_ ?_); (refine se_ (ex_pick_t ev_ .const) ?_); refine sn_ ?_; (refine ct_ ?_); refine sr_ ?_; (refine ac_ ?_); (refine ac_ ?_); refine sn_ ?_; (apply sc_ret); (apply rt_then); (apply ret_ok; (focus ((apply Res.tmp; (exact ev_)); (apply Res.tmp; (exact ev_)); exact Res.nil)); (exact ⟨rfl, rfl⟩); (exact sel_); (exact appb_)))
  | some n =>
    rw [h1] at hf1
    simp only [ptrO] at hf1
    obtain ⟨hn, hnid⟩ := findL_some h1
    have hnc := nb_cell (ρ := M.ρ) hn
    simp only [ncell, Nd.cells] at hnc
    cases hro : n.ro with
    | false =>
      have e1 : g.safeQ tx = (false, false) := by unfold Gr.safeQ; rw [h1]; dsimp only; rw [if_pos (.inl hro)]
      rw [e1]
      rw [hro] at hnc
      (refine sr_ ?_; (refine ac_ ?_); (refine ac_ ?_); refine sn_ ?_; refine sr_ ?_; (refine mv_ ?_); (refine mv_ ?_); (apply so_callq; (exact Ev.func); (focus ((apply EvL.cons; (exact ev_)); (apply EvL.cons; (exact ev_)); exact EvL.nil)); (focus (repeat (first | exact App.nil | apply App.cons))); assumption; exact hf1; (exact sel_); exact rfl); (refine asg_ ?_); refine sn_ ?_; (apply sc_seq); refine sr_ ?_; (refine mv_ ?_); (refine se_ (ex_eqp_f ev_ .const asm_) ?_); (refine mv_ ?_); (refine wt_ ?_); (refine mv_ ?_); (refine wt_ ?_); (refine se_ (ex_nilCheck ev_) ?_); (refine wt_ ?_); (refine se_ (ex_fieldAddr ev_ asm_) ?_); (refine wt_ ?_); (refine se_ (ex_load1 ev_ asm_ mem_ nth_) ?_); (refine wt_ ?_); (refine se_ (ex_not ev_) ?_); (refine se_ (ex_pick_f ev_ ev_) ?_); (refine mv_ ?_); (refine sk_ ?_); (refine sk_ ?_); (refine sk_ ?_); (refine sk_ ?_); (refine sk_ ?_); (refine se_ (ex_pick_t ev_ .const) ?_); refine sn_ ?_; (refine ct_ ?_); refine sr_ ?_; (refine ac_ ?_); (refine ac_ ?_); refine sn_ ?_; (apply sc_ret); (apply rt_then); (apply ret_ok; (focus ((apply Res.tmp; (exact ev_)); (apply Res.tmp; (exact ev_)); exact Res.nil)); (exact ⟨rfl, rfl⟩); (exact sel_); (exact appb_)))
    | true =>
      rw [hro] at hnc
      by_cases h2 : n.state = 2
      · have e1 : g.safeQ tx = (false, false) := by unfold Gr.safeQ; rw [h1]; dsimp only; rw [if_pos (.inr h2)]
        rw [e1]
        (refine sr_ ?_; (refine ac_ ?_); (refine ac_ ?_); refine sn_ ?_; refine sr_ ?_; (refine mv_ ?_); (refine mv_ ?_); (apply so_callq; (exact Ev.func); (focus ((apply EvL.cons; (exact ev_)); (apply EvL.cons; (exact ev_)); exact EvL.nil)); (focus (repeat (first | exact App.nil | apply App.cons))); assumption; exact hf1; (exact sel_); exact rfl); (refine asg_ ?_); refine sn_ ?_; (apply sc_seq); refine sr_ ?_; (refine mv_ ?_); (refine se_ (ex_eqp_f ev_ .const asm_) ?_); (refine mv_ ?_); (refine wt_ ?_); (refine mv_ ?_); (refine wt_ ?_); (refine se_ (ex_nilCheck ev_) ?_); (refine wt_ ?_); (refine se_ (ex_fieldAddr ev_ asm_) ?_); (refine wt_ ?_); (refine se_ (ex_load1 ev_ asm_ mem_ nth_) ?_); (refine wt_ ?_); (refine se_ (ex_not ev_) ?_); (refine se_ (ex_pick_f ev_ ev_) ?_); (refine mv_ ?_); (refine wt_ ?_); (refine mv_ ?_); (refine wt_ ?_); (refine se_ (ex_nilCheck ev_) ?_); (refine wt_ ?_); (refine se_ (ex_fieldAddr ev_ asm_) ?_); (refine wt_ ?_); (refine se_ (ex_load1 ev_ asm_ mem_ nth_) ?_); (refine wt_ ?_); (refine se_ (ex_eql_t ev_ .const om_) ?_); (refine se_ (ex_pick_f ev_ ev_) ?_); refine sn_ ?_; (refine ct_ ?_); refine sr_ ?_; (refine ac_ ?_); (refine ac_ ?_); refine sn_ ?_; (apply sc_ret); (apply rt_then); (apply ret_ok; (focus ((apply Res.tmp; (exact ev_)); (apply Res.tmp; (exact ev_)); exact Res.nil)); (exact ⟨rfl, rfl⟩); (exact sel_); (exact appb_)))
      · have e1 : g.safeQ tx = if n.beside.any (badG g n) then (true, false) else (n.beside.all (outG g), n.beside.all (outG g)) := by unfold Gr.safeQ; rw [h1]; dsimp only; rw [if_neg (by rw [hro]; simp [h2])]
        rw [e1]
        have hbs := hI.n.bs n hn
        have hlen := hbl n hn
        have hsv : ∃ o cap, (M.ρ n.id).sv = .slice o n.beside.length cap ∧ (0 < n.beside.length → ∃ b junk, o = some ⟨b, 0, none⟩ ∧ ((b, Obj.cells (n.beside.map (Value.int .i64) ++ junk).toArray 3) : Blk) ∈ NM M.ρ g.nodes) := by
          rcases hbs with ⟨k1, k2, k3⟩ | ⟨b, cap, junk, k1, k2, k3, k4⟩
          · exact ⟨none, 0, by rw [k2, k1]; rfl, fun h => by rw [k1] at h; exact absurd h (by simp)⟩
          · exact ⟨_, cap, k2, fun _ => ⟨b, junk, rfl, nb_sb hn (by rw [k4]; exact List.mem_cons_self ..)⟩⟩
        obtain ⟨o, cap, hsv, hrd⟩ := hsv
        rw [hsv] at hnc
        have hnde : (g.ended.map (·.id)).Nodup := by have := hI.n.nd; unfold Gr.nodes at this; rw [List.map_append, List.nodup_append] at this; exact this.2.1
        have hndl : (g.live.map (·.id)).Nodup := by have := hI.n.nd; unfold Gr.nodes at this; rw [List.map_append, List.nodup_append] at this; exact this.1
        generalize hzs : n.beside = zs at *
        (refine sr_ ?_; (refine ac_ ?_); (refine ac_ ?_); refine sn_ ?_; refine sr_ ?_; (refine mv_ ?_); (refine mv_ ?_); (apply so_callq; (exact Ev.func); (focus ((apply EvL.cons; (exact ev_)); (apply EvL.cons; (exact ev_)); exact EvL.nil)); (focus (repeat (first | exact App.nil | apply App.cons))); assumption; exact hf1; (exact sel_); exact rfl); (refine asg_ ?_); refine sn_ ?_; (apply sc_seq); refine sr_ ?_; (refine mv_ ?_); (refine se_ (ex_eqp_f ev_ .const asm_) ?_); (refine mv_ ?_); (refine wt_ ?_); (refine mv_ ?_); (refine wt_ ?_); (refine se_ (ex_nilCheck ev_) ?_); (refine wt_ ?_); (refine se_ (ex_fieldAddr ev_ asm_) ?_); (refine wt_ ?_); (refine se_ (ex_load1 ev_ asm_ mem_ nth_) ?_); (refine wt_ ?_); (refine se_ (ex_not ev_) ?_); (refine se_ (ex_pick_f ev_ ev_) ?_); (refine mv_ ?_); (refine wt_ ?_); (refine mv_ ?_); (refine wt_ ?_); (refine se_ (ex_nilCheck ev_) ?_); (refine wt_ ?_); (refine se_ (ex_fieldAddr ev_ asm_) ?_); (refine wt_ ?_); (refine se_ (ex_load1 ev_ asm_ mem_ nth_) ?_); (refine wt_ ?_); (refine se_ (ex_eql_f ev_ .const om_) ?_); (refine se_ (ex_pick_f ev_ ev_) ?_); refine sn_ ?_; (refine cf_ ?_); (apply sc_skip); (apply nm_then); refine sr_ ?_; (refine ac_ ?_); refine sn_ ?_; (apply sc_seq); refine sr_ ?_; (refine mv_ ?_); (refine se_ (ex_nilCheck ev_) ?_); (refine se_ (ex_fieldAddr ev_ asm_) ?_); (refine se_ (ex_load1 ev_ asm_ mem_ nth_) ?_); (refine se_ (ex_len_slice ev_ asm_) ?_); (refine se_ (ex_move .const) ?_); refine sn_ ?_; (apply sc_block))
        refine sc_loop (fun q f L => ∃ (i : Nat) (s : Bool), i ≤ zs.length ∧ q = zs.length - i ∧ (zs.take i).any (badG g n) = false ∧ s = (zs.take i).all (outG g) ∧ At f 0 (.pointer (some ⟨M.p, 0, none⟩)) ∧ At f 4 (.bool s) ∧ At f 6 (.pointer (some ⟨(M.ρ n.id).b, 0, none⟩)) ∧ At f 32 (.slice o zs.length cap) ∧ At f 33 (.int .i64 (zs.length : Int)) ∧ At f 34 (.int .i64 (i : Int)) ∧
          Held L ((M.p, .cells [Value.int .i64 g.most, .int .i64 g.commits, .map (some M.lm), .map (some M.em)].toArray 66) :: (M.lm, .map M.esl M.cl) :: (M.em, .map M.ese M.ce) :: (NC M.ρ g.nodes ++ NM M.ρ g.nodes)) R)
          _ ⟨0, true, by omega, rfl, by simp, by simp, at_, at_, at_, at_, at_, at_, held_⟩ ?_
        rintro q f L ⟨i, s, hi, hq, hno, hs, a0, a4, a6, a32, a33, a34, ⟨G, hG⟩⟩
        refine sc_perm hG ?_
        simp only [List.cons_append, List.append_assoc]
        by_cases hlt : i < zs.length
        · have hlt' : (i : Int) < (zs.length : Int) := by omega
          have e1 : ((i + 1 : Nat) : Int) = (i : Int) + 1 := by omega
          obtain ⟨b, junk, ho, hgm⟩ := hrd (by omega)
          subst ho
          have hz : (zs.map (Value.int .i64) ++ junk)[0 + i * 1]? = some (.int .i64 zs[i]) := by
            rw [Nat.zero_add, Nat.mul_one, List.getElem?_append_left (by simpa using hlt)]; simp [hlt]
          have hak := any_tk hlt (badG g n)
          have hal := all_tk hlt (outG g)
          rw [hno, Bool.false_or] at hak
          rw [← hs] at hal
          have hwh : badG g n zs[i] = true → zs.any (badG g n) = true := fun h => List.any_eq_true.2 ⟨_, List.getElem_mem hlt, h⟩
          generalize hkk : zs[i] = kk at *
          have hlkL := lookV_mlist (ρ := M.ρ) g.live kk
          have hlkE := lookV_mlist (ρ := M.ρ) g.ended kk
          cases he : findL g.ended kk with
          | none =>
            have hE : (lookV (mlist M.ρ g.ended) kk).getD (.pointer none) = .pointer none := by rw [hlkE, he]; rfl
            have hbad : badG g n kk = false := by unfold badG; rw [he]
            cases hl : findL g.live kk with
            | none =>
              have hL : (lookV (mlist M.ρ g.live) kk).getD (.pointer none) = .pointer none := by rw [hlkL, hl]; rfl
              have hout : outG g kk = true := by unfold outG; rw [hl]; rfl
              rw [hout, Bool.and_true] at hal
              clear hlkL hlkE hwh
              cases s with
              | true =>
                (refine sr_ ?_; (refine se_ (ex_lss_t ev_ ev_ om_) ?_); refine sn_ ?_; (apply sc_seq); (refine ct_ ?_); (apply sc_skip); (apply nm_then); (apply sc_seq); (apply sc_block); refine sr_ ?_; (refine se_ (ex_indexAddr ev_ ev_ asm_ asm_ lit_ lt_) ?_); (apply so_ex; (apply ex_load1r; (exact ev_); assumption; (exact mem_); exact hz); exact rfl); (refine asg_ ?_); refine sn_ ?_; (apply sc_seq); refine sr_ ?_; (refine mv_ ?_); (refine se_ (ex_nilCheck ev_) ?_); (refine se_ (ex_fieldAddr ev_ asm_) ?_); (refine se_ (ex_load1 ev_ asm_ mem_ nth_) ?_); (refine mv_ ?_); (apply so_ex; (apply ex_look; (exact ev_); (exact mem_); assumption; (exact ev_); (first | exact keyEq .. | exact rfl); assumption; assumption; assumption; (first | exact lookEq .. | exact lookEq3 .. | exact lookEq4 .. | assumption | exact rfl)); exact rfl); (refine asg_ ?_); refine sn_ ?_; (apply sc_seq); (apply sc_quiet (id := 9); assumption; kernel_rfl); (refine qe_ (ex_move ev_) ?_); (refine qe_ (ex_nep_f ev_ .const asm_) ?_); (refine qe_ (ex_move ev_) ?_); (refine qs_ ?_); (refine qs_ ?_); (refine qs_ ?_); (refine qs_ ?_); (refine qs_ ?_); (refine qs_ ?_); (refine qs_ ?_); (refine qs_ ?_); (refine qs_ ?_); (refine qe_ (ex_pick_f ev_ .const) ?_); (apply sq_nil); (apply nm_then); (refine cf_ ?_); (apply sc_skip); (apply nm_then); (apply sc_region); (refine mv_ ?_); (refine mv_ ?_); (refine wt_ ?_); (refine mv_ ?_); (refine wt_ ?_); (refine se_ (ex_nilCheck ev_) ?_); (refine wt_ ?_); (refine se_ (ex_fieldAddr ev_ asm_) ?_); (refine wt_ ?_); (refine se_ (ex_load1 ev_ asm_ mem_ nth_) ?_); (refine wt_ ?_); (refine mv_ ?_); (refine wt_ ?_); (apply so_ex; (apply ex_look; (exact ev_); (exact mem_); assumption; (exact ev_); (first | exact keyEq .. | exact rfl); assumption; assumption; assumption; (first | exact lookEq .. | exact lookEq3 .. | exact lookEq4 .. | assumption | exact rfl)); exact rfl); (refine wt_ ?_); (refine se_ (ex_eqp_t ev_ .const asm_) ?_); (refine se_ (ex_pick_t ev_ ev_) ?_); (refine asg_ ?_); (apply so_nil); (apply nm_block); (apply nm_then); (apply sc_region); (refine se_ (ex_add ev_ .const wr_) ?_); (refine mv_ ?_); (apply so_nil); (apply nm_then))
                exact ⟨_, by rw [hq]; omega, i + 1, _, by omega, rfl, hak.trans hbad, hal.symm, at_, at_, at_, at_, at_, by rw [e1]; exact at_, held_⟩
              | false =>
                (refine sr_ ?_; (refine se_ (ex_lss_t ev_ ev_ om_) ?_); refine sn_ ?_; (apply sc_seq); (refine ct_ ?_); (apply sc_skip); (apply nm_then); (apply sc_seq); (apply sc_block); refine sr_ ?_; (refine se_ (ex_indexAddr ev_ ev_ asm_ asm_ lit_ lt_) ?_); (apply so_ex; (apply ex_load1r; (exact ev_); assumption; (exact mem_); exact hz); exact rfl); (refine asg_ ?_); refine sn_ ?_; (apply sc_seq); refine sr_ ?_; (refine mv_ ?_); (refine se_ (ex_nilCheck ev_) ?_); (refine se_ (ex_fieldAddr ev_ asm_) ?_); (refine se_ (ex_load1 ev_ asm_ mem_ nth_) ?_); (refine mv_ ?_); (apply so_ex; (apply ex_look; (exact ev_); (exact mem_); assumption; (exact ev_); (first | exact keyEq .. | exact rfl); assumption; assumption; assumption; (first | exact lookEq .. | exact lookEq3 .. | exact lookEq4 .. | assumption | exact rfl)); exact rfl); (refine asg_ ?_); refine sn_ ?_; (apply sc_seq); (apply sc_quiet (id := 9); assumption; kernel_rfl); (refine qe_ (ex_move ev_) ?_); (refine qe_ (ex_nep_f ev_ .const asm_) ?_); (refine qe_ (ex_move ev_) ?_); (refine qs_ ?_); (refine qs_ ?_); (refine qs_ ?_); (refine qs_ ?_); (refine qs_ ?_); (refine qs_ ?_); (refine qs_ ?_); (refine qs_ ?_); (refine qs_ ?_); (refine qe_ (ex_pick_f ev_ .const) ?_); (apply sq_nil); (apply nm_then); (refine cf_ ?_); (apply sc_skip); (apply nm_then); (apply sc_region); (refine mv_ ?_); (refine mv_ ?_); (refine sk_ ?_); (refine sk_ ?_); (refine sk_ ?_); (refine sk_ ?_); (refine sk_ ?_); (refine sk_ ?_); (refine sk_ ?_); (refine se_ (ex_pick_f ev_ .const) ?_); (refine asg_ ?_); (apply so_nil); (apply nm_block); (apply nm_then); (apply sc_region); (refine se_ (ex_add ev_ .const wr_) ?_); (refine mv_ ?_); (apply so_nil); (apply nm_then))
                exact ⟨_, by rw [hq]; omega, i + 1, _, by omega, rfl, hak.trans hbad, hal.symm, at_, at_, at_, at_, at_, by rw [e1]; exact at_, held_⟩
            | some m2 =>
              obtain ⟨hm2, hid2⟩ := findL_some hl
              have hL : (lookV (mlist M.ρ g.live) kk).getD (.pointer none) = .pointer (some ⟨(M.ρ m2.id).b, 0, none⟩) := by rw [hlkL, hl]; rfl
              have hout : outG g kk = false := by unfold outG; rw [hl]; rfl
              rw [hout, Bool.and_false] at hal
              clear hlkL hlkE hwh
              cases s with
              | true =>
                (refine sr_ ?_; (refine se_ (ex_lss_t ev_ ev_ om_) ?_); refine sn_ ?_; (apply sc_seq); (refine ct_ ?_); (apply sc_skip); (apply nm_then); (apply sc_seq); (apply sc_block); refine sr_ ?_; (refine se_ (ex_indexAddr ev_ ev_ asm_ asm_ lit_ lt_) ?_); (apply so_ex; (apply ex_load1r; (exact ev_); assumption; (exact mem_); exact hz); exact rfl); (refine asg_ ?_); refine sn_ ?_; (apply sc_seq); refine sr_ ?_; (refine mv_ ?_); (refine se_ (ex_nilCheck ev_) ?_); (refine se_ (ex_fieldAddr ev_ asm_) ?_); (refine se_ (ex_load1 ev_ asm_ mem_ nth_) ?_); (refine mv_ ?_); (apply so_ex; (apply ex_look; (exact ev_); (exact mem_); assumption; (exact ev_); (first | exact keyEq .. | exact rfl); assumption; assumption; assumption; (first | exact lookEq .. | exact lookEq3 .. | exact lookEq4 .. | assumption | exact rfl)); exact rfl); (refine asg_ ?_); refine sn_ ?_; (apply sc_seq); (apply sc_quiet (id := 9); assumption; kernel_rfl); (refine qe_ (ex_move ev_) ?_); (refine qe_ (ex_nep_f ev_ .const asm_) ?_); (refine qe_ (ex_move ev_) ?_); (refine qs_ ?_); (refine qs_ ?_); (refine qs_ ?_); (refine qs_ ?_); (refine qs_ ?_); (refine qs_ ?_); (refine qs_ ?_); (refine qs_ ?_); (refine qs_ ?_); (refine qe_ (ex_pick_f ev_ .const) ?_); (apply sq_nil); (apply nm_then); (refine cf_ ?_); (apply sc_skip); (apply nm_then); (apply sc_region); (refine mv_ ?_); (refine mv_ ?_); (refine wt_ ?_); (refine mv_ ?_); (refine wt_ ?_); (refine se_ (ex_nilCheck ev_) ?_); (refine wt_ ?_); (refine se_ (ex_fieldAddr ev_ asm_) ?_); (refine wt_ ?_); (refine se_ (ex_load1 ev_ asm_ mem_ nth_) ?_); (refine wt_ ?_); (refine mv_ ?_); (refine wt_ ?_); (apply so_ex; (apply ex_look; (exact ev_); (exact mem_); assumption; (exact ev_); (first | exact keyEq .. | exact rfl); assumption; assumption; assumption; (first | exact lookEq .. | exact lookEq3 .. | exact lookEq4 .. | assumption | exact rfl)); exact rfl); (refine wt_ ?_); (refine se_ (ex_eqp_f ev_ .const asm_) ?_); (refine se_ (ex_pick_t ev_ ev_) ?_); (refine asg_ ?_); (apply so_nil); (apply nm_block); (apply nm_then); (apply sc_region); (refine se_ (ex_add ev_ .const wr_) ?_); (refine mv_ ?_); (apply so_nil); (apply nm_then))
                exact ⟨_, by rw [hq]; omega, i + 1, _, by omega, rfl, hak.trans hbad, hal.symm, at_, at_, at_, at_, at_, by rw [e1]; exact at_, held_⟩
              | false =>
                (refine sr_ ?_; (refine se_ (ex_lss_t ev_ ev_ om_) ?_); refine sn_ ?_; (apply sc_seq); (refine ct_ ?_); (apply sc_skip); (apply nm_then); (apply sc_seq); (apply sc_block); refine sr_ ?_; (refine se_ (ex_indexAddr ev_ ev_ asm_ asm_ lit_ lt_) ?_); (apply so_ex; (apply ex_load1r; (exact ev_); assumption; (exact mem_); exact hz); exact rfl); (refine asg_ ?_); refine sn_ ?_; (apply sc_seq); refine sr_ ?_; (refine mv_ ?_); (refine se_ (ex_nilCheck ev_) ?_); (refine se_ (ex_fieldAddr ev_ asm_) ?_); (refine se_ (ex_load1 ev_ asm_ mem_ nth_) ?_); (refine mv_ ?_); (apply so_ex; (apply ex_look; (exact ev_); (exact mem_); assumption; (exact ev_); (first | exact keyEq .. | exact rfl); assumption; assumption; assumption; (first | exact lookEq .. | exact lookEq3 .. | exact lookEq4 .. | assumption | exact rfl)); exact rfl); (refine asg_ ?_); refine sn_ ?_; (apply sc_seq); (apply sc_quiet (id := 9); assumption; kernel_rfl); (refine qe_ (ex_move ev_) ?_); (refine qe_ (ex_nep_f ev_ .const asm_) ?_); (refine qe_ (ex_move ev_) ?_); (refine qs_ ?_); (refine qs_ ?_); (refine qs_ ?_); (refine qs_ ?_); (refine qs_ ?_); (refine qs_ ?_); (refine qs_ ?_); (refine qs_ ?_); (refine qs_ ?_); (refine qe_ (ex_pick_f ev_ .const) ?_); (apply sq_nil); (apply nm_then); (refine cf_ ?_); (apply sc_skip); (apply nm_then); (apply sc_region); (refine mv_ ?_); (refine mv_ ?_); (refine sk_ ?_); (refine sk_ ?_); (refine sk_ ?_); (refine sk_ ?_); (refine sk_ ?_); (refine sk_ ?_); (refine sk_ ?_); (refine se_ (ex_pick_f ev_ .const) ?_); (refine asg_ ?_); (apply so_nil); (apply nm_block); (apply nm_then); (apply sc_region); (refine se_ (ex_add ev_ .const wr_) ?_); (refine mv_ ?_); (apply so_nil); (apply nm_then))
                exact ⟨_, by rw [hq]; omega, i + 1, _, by omega, rfl, hak.trans hbad, hal.symm, at_, at_, at_, at_, at_, by rw [e1]; exact at_, held_⟩
          | some m =>
            obtain ⟨hm, hmid⟩ := findL_some he
            have hE : (lookV (mlist M.ρ g.ended) kk).getD (.pointer none) = .pointer (some ⟨(M.ρ m.id).b, 0, none⟩) := by rw [hlkE, he]; rfl
            have hmc := nb_cell (ρ := M.ρ) (l := g.nodes) (List.mem_append_right _ hm)
            simp only [ncell, Nd.cells] at hmc
            by_cases hle : m.least ≤ n.begin_
            · have hbad : badG g n kk = true := by unfold badG; rw [he]; simpa using hle
              rw [if_pos (hwh hbad)]
              clear hlkL hlkE hwh
              (refine sr_ ?_; (refine se_ (ex_lss_t ev_ ev_ om_) ?_); refine sn_ ?_; (apply sc_seq); (refine ct_ ?_); (apply sc_skip); (apply nm_then); (apply sc_seq); (apply sc_block); refine sr_ ?_; (refine se_ (ex_indexAddr ev_ ev_ asm_ asm_ lit_ lt_) ?_); (apply so_ex; (apply ex_load1r; (exact ev_); assumption; (exact mem_); exact hz); exact rfl); (refine asg_ ?_); refine sn_ ?_; (apply sc_seq); refine sr_ ?_; (refine mv_ ?_); (refine se_ (ex_nilCheck ev_) ?_); (refine se_ (ex_fieldAddr ev_ asm_) ?_); (refine se_ (ex_load1 ev_ asm_ mem_ nth_) ?_); (refine mv_ ?_); (apply so_ex; (apply ex_look; (exact ev_); (exact mem_); assumption; (exact ev_); (first | exact keyEq .. | exact rfl); assumption; assumption; assumption; (first | exact lookEq .. | exact lookEq3 .. | exact lookEq4 .. | assumption | exact rfl)); exact rfl); (refine asg_ ?_); refine sn_ ?_; (apply sc_seq); (apply sc_quiet (id := 9); assumption; kernel_rfl); (refine qe_ (ex_move ev_) ?_); (refine qe_ (ex_nep_t ev_ .const asm_) ?_); (refine qe_ (ex_move ev_) ?_); (refine qw_ ?_); (refine qe_ (ex_move ev_) ?_); (refine qw_ ?_); (refine qe_ (ex_nilCheck ev_) ?_); (refine qw_ ?_); (refine qe_ (ex_fieldAddr ev_ asm_) ?_); (refine qw_ ?_); (refine qe_ (ex_load1 ev_ asm_ mem_ nth_) ?_); (refine qw_ ?_); (refine qe_ (ex_move ev_) ?_); (refine qw_ ?_); (refine qe_ (ex_nilCheck ev_) ?_); (refine qw_ ?_); (refine qe_ (ex_fieldAddr ev_ asm_) ?_); (refine qw_ ?_); (refine qe_ (ex_load1 ev_ asm_ mem_ nth_) ?_); (refine qw_ ?_); (refine qe_ (ex_leq_t ev_ ev_ om_) ?_); (refine qe_ (ex_pick_t ev_ ev_) ?_); (apply sq_nil); (apply nm_then); (refine ct_ ?_); refine sr_ ?_; (refine ac_ ?_); (refine ac_ ?_); refine sn_ ?_; (apply sc_ret); (apply rt_then); (apply rt_block); (apply rt_then); (apply rt_then); (apply rt_block); (apply rt_then); (apply ret_ok; (focus ((apply Res.tmp; (exact ev_)); (apply Res.tmp; (exact ev_)); exact Res.nil)); (exact ⟨rfl, rfl⟩); (exact sel_); (exact appb_)))
            · have hbad : badG g n kk = false := by unfold badG; rw [he]; simpa using hle
              cases hl : findL g.live kk with
              | none =>
                have hL : (lookV (mlist M.ρ g.live) kk).getD (.pointer none) = .pointer none := by rw [hlkL, hl]; rfl
                have hout : outG g kk = true := by unfold outG; rw [hl]; rfl
                rw [hout, Bool.and_true] at hal
                clear hlkL hlkE hwh
                cases s with
                | true =>
                  (refine sr_ ?_; (refine se_ (ex_lss_t ev_ ev_ om_) ?_); refine sn_ ?_; (apply sc_seq); (refine ct_ ?_); (apply sc_skip); (apply nm_then); (apply sc_seq); (apply sc_block); refine sr_ ?_; (refine se_ (ex_indexAddr ev_ ev_ asm_ asm_ lit_ lt_) ?_); (apply so_ex; (apply ex_load1r; (exact ev_); assumption; (exact mem_); exact hz); exact rfl); (refine asg_ ?_); refine sn_ ?_; (apply sc_seq); refine sr_ ?_; (refine mv_ ?_); (refine se_ (ex_nilCheck ev_) ?_); (refine se_ (ex_fieldAddr ev_ asm_) ?_); (refine se_ (ex_load1 ev_ asm_ mem_ nth_) ?_); (refine mv_ ?_); (apply so_ex; (apply ex_look; (exact ev_); (exact mem_); assumption; (exact ev_); (first | exact keyEq .. | exact rfl); assumption; assumption; assumption; (first | exact lookEq .. | exact lookEq3 .. | exact lookEq4 .. | assumption | exact rfl)); exact rfl); (refine asg_ ?_); refine sn_ ?_; (apply sc_seq); (apply sc_quiet (id := 9); assumption; kernel_rfl); (refine qe_ (ex_move ev_) ?_); (refine qe_ (ex_nep_t ev_ .const asm_) ?_); (refine qe_ (ex_move ev_) ?_); (refine qw_ ?_); (refine qe_ (ex_move ev_) ?_); (refine qw_ ?_); (refine qe_ (ex_nilCheck ev_) ?_); (refine qw_ ?_); (refine qe_ (ex_fieldAddr ev_ asm_) ?_); (refine qw_ ?_); (refine qe_ (ex_load1 ev_ asm_ mem_ nth_) ?_); (refine qw_ ?_); (refine qe_ (ex_move ev_) ?_); (refine qw_ ?_); (refine qe_ (ex_nilCheck ev_) ?_); (refine qw_ ?_); (refine qe_ (ex_fieldAddr ev_ asm_) ?_); (refine qw_ ?_); (refine qe_ (ex_load1 ev_ asm_ mem_ nth_) ?_); (refine qw_ ?_); (refine qe_ (ex_leq_f ev_ ev_ om_) ?_); (refine qe_ (ex_pick_t ev_ ev_) ?_); (apply sq_nil); (apply nm_then); (refine cf_ ?_); (apply sc_skip); (apply nm_then); (apply sc_region); (refine mv_ ?_); (refine mv_ ?_); (refine wt_ ?_); (refine mv_ ?_); (refine wt_ ?_); (refine se_ (ex_nilCheck ev_) ?_); (refine wt_ ?_); (refine se_ (ex_fieldAddr ev_ asm_) ?_); (refine wt_ ?_); (refine se_ (ex_load1 ev_ asm_ mem_ nth_) ?_); (refine wt_ ?_); (refine mv_ ?_); (refine wt_ ?_); (apply so_ex; (apply ex_look; (exact ev_); (exact mem_); assumption; (exact ev_); (first | exact keyEq .. | exact rfl); assumption; assumption; assumption; (first | exact lookEq .. | exact lookEq3 .. | exact lookEq4 .. | assumption | exact rfl)); exact rfl); (refine wt_ ?_); (refine se_ (ex_eqp_t ev_ .const asm_) ?_); (refine se_ (ex_pick_t ev_ ev_) ?_); (refine asg_ ?_); (apply so_nil); (apply nm_block); (apply nm_then); (apply sc_region); (refine se_ (ex_add ev_ .const wr_) ?_); (refine mv_ ?_); (apply so_nil); (apply nm_then))
                  exact ⟨_, by rw [hq]; omega, i + 1, _, by omega, rfl, hak.trans hbad, hal.symm, at_, at_, at_, at_, at_, by rw [e1]; exact at_, held_⟩
                | false =>
                  (refine sr_ ?_; (refine se_ (ex_lss_t ev_ ev_ om_) ?_); refine sn_ ?_; (apply sc_seq); (refine ct_ ?_); (apply sc_skip); (apply nm_then); (apply sc_seq); (apply sc_block); refine sr_ ?_; (refine se_ (ex_indexAddr ev_ ev_ asm_ asm_ lit_ lt_) ?_); (apply so_ex; (apply ex_load1r; (exact ev_); assumption; (exact mem_); exact hz); exact rfl); (refine asg_ ?_); refine sn_ ?_; (apply sc_seq); refine sr_ ?_; (refine mv_ ?_); (refine se_ (ex_nilCheck ev_) ?_); (refine se_ (ex_fieldAddr ev_ asm_) ?_); (refine se_ (ex_load1 ev_ asm_ mem_ nth_) ?_); (refine mv_ ?_); (apply so_ex; (apply ex_look; (exact ev_); (exact mem_); assumption; (exact ev_); (first | exact keyEq .. | exact rfl); assumption; assumption; assumption; (first | exact lookEq .. | exact lookEq3 .. | exact lookEq4 .. | assumption | exact rfl)); exact rfl); (refine asg_ ?_); refine sn_ ?_; (apply sc_seq); (apply sc_quiet (id := 9); assumption; kernel_rfl); (refine qe_ (ex_move ev_) ?_); (refine qe_ (ex_nep_t ev_ .const asm_) ?_); (refine qe_ (ex_move ev_) ?_); (refine qw_ ?_); (refine qe_ (ex_move ev_) ?_); (refine qw_ ?_); (refine qe_ (ex_nilCheck ev_) ?_); (refine qw_ ?_); (refine qe_ (ex_fieldAddr ev_ asm_) ?_); (refine qw_ ?_); (refine qe_ (ex_load1 ev_ asm_ mem_ nth_) ?_); (refine qw_ ?_); (refine qe_ (ex_move ev_) ?_); (refine qw_ ?_); (refine qe_ (ex_nilCheck ev_) ?_); (refine qw_ ?_); (refine qe_ (ex_fieldAddr ev_ asm_) ?_); (refine qw_ ?_); (refine qe_ (ex_load1 ev_ asm_ mem_ nth_) ?_); (refine qw_ ?_); (refine qe_ (ex_leq_f ev_ ev_ om_) ?_); (refine qe_ (ex_pick_t ev_ ev_) ?_); (apply sq_nil); (apply nm_then); (refine cf_ ?_); (apply sc_skip); (apply nm_then); (apply sc_region); (refine mv_ ?_); (refine mv_ ?_); (refine sk_ ?_); (refine sk_ ?_); (refine sk_ ?_); (refine sk_ ?_); (refine sk_ ?_); (refine sk_ ?_); (refine sk_ ?_); (refine se_ (ex_pick_f ev_ .const) ?_); (refine asg_ ?_); (apply so_nil); (apply nm_block); (apply nm_then); (apply sc_region); (refine se_ (ex_add ev_ .const wr_) ?_); (refine mv_ ?_); (apply so_nil); (apply nm_then))
                  exact ⟨_, by rw [hq]; omega, i + 1, _, by omega, rfl, hak.trans hbad, hal.symm, at_, at_, at_, at_, at_, by rw [e1]; exact at_, held_⟩
              | some m2 =>
                obtain ⟨hm2, hid2⟩ := findL_some hl
                have hL : (lookV (mlist M.ρ g.live) kk).getD (.pointer none) = .pointer (some ⟨(M.ρ m2.id).b, 0, none⟩) := by rw [hlkL, hl]; rfl
                have hout : outG g kk = false := by unfold outG; rw [hl]; rfl
                rw [hout, Bool.and_false] at hal
                clear hlkL hlkE hwh
                cases s with
                | true =>
                  (refine sr_ ?_; (refine se_ (ex_lss_t ev_ ev_ om_) ?_); refine sn_ ?_; (apply sc_seq); (refine ct_ ?_); (apply sc_skip); (apply nm_then); (apply sc_seq); (apply sc_block); refine sr_ ?_; (refine se_ (ex_indexAddr ev_ ev_ asm_ asm_ lit_ lt_) ?_); (apply so_ex; (apply ex_load1r; (exact ev_); assumption; (exact mem_); exact hz); exact rfl); (refine asg_ ?_); refine sn_ ?_; (apply sc_seq); refine sr_ ?_; (refine mv_ ?_); (refine se_ (ex_nilCheck ev_) ?_); (refine se_ (ex_fieldAddr ev_ asm_) ?_); (refine se_ (ex_load1 ev_ asm_ mem_ nth_) ?_); (refine mv_ ?_); (apply so_ex; (apply ex_look; (exact ev_); (exact mem_); assumption; (exact ev_); (first | exact keyEq .. | exact rfl); assumption; assumption; assumption; (first | exact lookEq .. | exact lookEq3 .. | exact lookEq4 .. | assumption | exact rfl)); exact rfl); (refine asg_ ?_); refine sn_ ?_; (apply sc_seq); (apply sc_quiet (id := 9); assumption; kernel_rfl); (refine qe_ (ex_move ev_) ?_); (refine qe_ (ex_nep_t ev_ .const asm_) ?_); (refine qe_ (ex_move ev_) ?_); (refine qw_ ?_); (refine qe_ (ex_move ev_) ?_); (refine qw_ ?_); (refine qe_ (ex_nilCheck ev_) ?_); (refine qw_ ?_); (refine qe_ (ex_fieldAddr ev_ asm_) ?_); (refine qw_ ?_); (refine qe_ (ex_load1 ev_ asm_ mem_ nth_) ?_); (refine qw_ ?_); (refine qe_ (ex_move ev_) ?_); (refine qw_ ?_); (refine qe_ (ex_nilCheck ev_) ?_); (refine qw_ ?_); (refine qe_ (ex_fieldAddr ev_ asm_) ?_); (refine qw_ ?_); (refine qe_ (ex_load1 ev_ asm_ mem_ nth_) ?_); (refine qw_ ?_); (refine qe_ (ex_leq_f ev_ ev_ om_) ?_); (refine qe_ (ex_pick_t ev_ ev_) ?_); (apply sq_nil); (apply nm_then); (refine cf_ ?_); (apply sc_skip); (apply nm_then); (apply sc_region); (refine mv_ ?_); (refine mv_ ?_); (refine wt_ ?_); (refine mv_ ?_); (refine wt_ ?_); (refine se_ (ex_nilCheck ev_) ?_); (refine wt_ ?_); (refine se_ (ex_fieldAddr ev_ asm_) ?_); (refine wt_ ?_); (refine se_ (ex_load1 ev_ asm_ mem_ nth_) ?_); (refine wt_ ?_); (refine mv_ ?_); (refine wt_ ?_); (apply so_ex; (apply ex_look; (exact ev_); (exact mem_); assumption; (exact ev_); (first | exact keyEq .. | exact rfl); assumption; assumption; assumption; (first | exact lookEq .. | exact lookEq3 .. | exact lookEq4 .. | assumption | exact rfl)); exact rfl); (refine wt_ ?_); (refine se_ (ex_eqp_f ev_ .const asm_) ?_); (refine se_ (ex_pick_t ev_ ev_) ?_); (refine asg_ ?_); (apply so_nil); (apply nm_block); (apply nm_then); (apply sc_region); (refine se_ (ex_add ev_ .const wr_) ?_); (refine mv_ ?_); (apply so_nil); (apply nm_then))
                  exact ⟨_, by rw [hq]; omega, i + 1, _, by omega, rfl, hak.trans hbad, hal.symm, at_, at_, at_, at_, at_, by rw [e1]; exact at_, held_⟩
                | false =>
                  (refine sr_ ?_; (refine se_ (ex_lss_t ev_ ev_ om_) ?_); refine sn_ ?_; (apply sc_seq); (refine ct_ ?_); (apply sc_skip); (apply nm_then); (apply sc_seq); (apply sc_block); refine sr_ ?_; (refine se_ (ex_indexAddr ev_ ev_ asm_ asm_ lit_ lt_) ?_); (apply so_ex; (apply ex_load1r; (exact ev_); assumption; (exact mem_); exact hz); exact rfl); (refine asg_ ?_); refine sn_ ?_; (apply sc_seq); refine sr_ ?_; (refine mv_ ?_); (refine se_ (ex_nilCheck ev_) ?_); (refine se_ (ex_fieldAddr ev_ asm_) ?_); (refine se_ (ex_load1 ev_ asm_ mem_ nth_) ?_); (refine mv_ ?_); (apply so_ex; (apply ex_look; (exact ev_); (exact mem_); assumption; (exact ev_); (first | exact keyEq .. | exact rfl); assumption; assumption; assumption; (first | exact lookEq .. | exact lookEq3 .. | exact lookEq4 .. | assumption | exact rfl)); exact rfl); (refine asg_ ?_); refine sn_ ?_; (apply sc_seq); (apply sc_quiet (id := 9); assumption; kernel_rfl); (refine qe_ (ex_move ev_) ?_); (refine qe_ (ex_nep_t ev_ .const asm_) ?_); (refine qe_ (ex_move ev_) ?_); (refine qw_ ?_); (refine qe_ (ex_move ev_) ?_); (refine qw_ ?_); (refine qe_ (ex_nilCheck ev_) ?_); (refine qw_ ?_); (refine qe_ (ex_fieldAddr ev_ asm_) ?_); (refine qw_ ?_); (refine qe_ (ex_load1 ev_ asm_ mem_ nth_) ?_); (refine qw_ ?_); (refine qe_ (ex_move ev_) ?_); (refine qw_ ?_); (refine qe_ (ex_nilCheck ev_) ?_); (refine qw_ ?_); (refine qe_ (ex_fieldAddr ev_ asm_) ?_); (refine qw_ ?_); (refine qe_ (ex_load1 ev_ asm_ mem_ nth_) ?_); (refine qw_ ?_); (refine qe_ (ex_leq_f ev_ ev_ om_) ?_); (refine qe_ (ex_pick_t ev_ ev_) ?_); (apply sq_nil); (apply nm_then); (refine cf_ ?_); (apply sc_skip); (apply nm_then); (apply sc_region); (refine mv_ ?_); (refine mv_ ?_); (refine sk_ ?_); (refine sk_ ?_); (refine sk_ ?_); (refine sk_ ?_); (refine sk_ ?_); (refine sk_ ?_); (refine sk_ ?_); (refine se_ (ex_pick_f ev_ .const) ?_); (refine asg_ ?_); (apply so_nil); (apply nm_block); (apply nm_then); (apply sc_region); (refine se_ (ex_add ev_ .const wr_) ?_); (refine mv_ ?_); (apply so_nil); (apply nm_then))
                  exact ⟨_, by rw [hq]; omega, i + 1, _, by omega, rfl, hak.trans hbad, hal.symm, at_, at_, at_, at_, at_, by rw [e1]; exact at_, held_⟩
        · have hlt' : ¬ (i : Int) < (zs.length : Int) := by omega
          obtain rfl : i = zs.length := by omega
          rw [List.take_length] at hno hs
          rw [hno, if_neg Bool.false_ne_true, ← hs]
          (refine sr_ ?_; (refine se_ (ex_lss_f ev_ ev_ om_) ?_); refine sn_ ?_; (apply sc_seq); (refine cf_ ?_); (apply sc_exit); (apply et_then); (apply et_then); (apply et_hit); (apply nm_then); refine sr_ ?_; (refine mv_ ?_); (refine mv_ ?_); (refine asg_ ?_); (refine asg_ ?_); refine sn_ ?_; (apply sc_ret); (apply ret_ok; (focus ((apply Res.tmp; (exact ev_)); (apply Res.tmp; (exact ev_)); exact Res.nil)); (exact ⟨rfl, rfl⟩); (exact sel_); (exact appb_)))
theorem safeR1_tri {K : Nat} {g : Gr} {p : Nat} {L : List Blk} (hR : GRep K g p L) (hbl : ∀ n ∈ g.nodes, n.beside.length ≤ 1000000) {tx : Int} : TriQ Try.prog 18 #[.pointer (some ⟨p, 0, none⟩), .int .i64 tx] L (.tuple #[.bool (g.safeQ tx).1, .bool (g.safeQ tx).2]) := by
  rcases hR with ⟨hg, rfl⟩ | ⟨M, rfl, rfl, hI, hS⟩
  · have e : g.safeQ tx = (false, false) := by rw [hg]; rfl
    rw [e]
    generalize g.most = most
    have f_mixed := mixed; have f_by3 := by3; have f_en30 := en30; have f_fo66_2 := fo66_2; have f_fo66_3 := fo66_3; have f_fo72_1 := fo72_1; have f_fo72_10 := fo72_10; have f_fo72_2 := fo72_2; have f_fo72_4 := fo72_4; have f_fo72_9 := fo72_9; have f_ty25 := ty25; have f_ty3 := ty3; have f_ty4 := ty4; have f_ty64 := ty64; have f_ty69 := ty69; have f_un_25 : Und Try.prog 25 _ := ⟨Try.underlying25⟩; have f_un_64 : Und Try.prog 64 _ := ⟨Try.underlying64⟩; have f_un_69 : Und Try.prog 69 _ := ⟨Try.underlying69⟩; have f_zero3 := zero3; have f_zero69 := zero69; have f_zv3 := zv3; have f_zv69 := zv69
    have hf := findF_tri (p := p) (most := most) (tx := tx)
    refine tri_intro (args := [_, _]) Try.func18 rfl Try.ntmps18 rfl (rs := _) rfl rfl fun E R => ?_
    simp only [fr, fblk, List.cons_append, List.nil_append] at hf ⊢
    (refine sr_ ?_; (refine ac_ ?_); (refine ac_ ?_); refine sn_ ?_; refine sr_ ?_; (refine mv_ ?_); (refine mv_ ?_); (apply so_callq; (exact Ev.func); (focus ((apply EvL.cons; (exact ev_)); (apply EvL.cons; (exact ev_)); exact EvL.nil)); (focus (repeat (first | exact App.nil | apply App.cons))); assumption; exact hf; (exact sel_); exact rfl); (refine asg_ ?_); refine sn_ ?_; (apply sc_seq); refine sr_ ?_; (refine mv_ ?_); (refine se_ (ex_eqp_t ev_ .const asm_) ?_); (refine mv_ ?_); (refine sk_ ?_); (refine sk_ ?_); (refine sk_ ?_); (refine sk_ ?_); (refine sk_ ?_); (refine se_ (ex_pick_t ev_ .const) ?_); (refine mv_ ?_); (refine sk_ ?_); (refine sk_ ?_); (refine sk_ ?_); (refine sk_ ?_); (refine sk_ ?_); (refine se_ (ex_pick_t ev_ .const) ?_); refine sn_ ?_; (refine ct_ ?_); refine sr_ ?_; (refine ac_ ?_); (refine ac_ ?_); refine sn_ ?_; (apply sc_ret); (apply rt_then); (apply ret_ok; (focus ((apply Res.tmp; (exact ev_)); (apply Res.tmp; (exact ev_)); exact Res.nil)); (exact ⟨rfl, rfl⟩); (exact sel_); (exact appb_)))
  · exact safe_tri hI hbl
end Go.Proofs.Ytomgkmoecbnddaa
