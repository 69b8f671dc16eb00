/- Conflict: Abort. -/
import Derived.Test.YtomgkmoecbnddaaR4
set_option linter.unusedVariables false
set_option linter.unusedSimpArgs false
set_option linter.unnecessarySimpa false
namespace Go.Proofs.Ytomgkmoecbnddaa
open Go.Sym

theorem split_blks {K : Nat} {g : Gr} {ρ : Int → Raw} (hI : InvN K g ρ) {n : Nd} (hn : n ∈ g.live) :
    (NC ρ g.nodes ++ NM ρ g.nodes).Perm (((ρ n.id).b, .cells (n.cells (.map (some (ρ n.id).mi)) (.map (some (ρ n.id).mo)) (ρ n.id).sv).toArray 72) :: ((ρ n.id).mi, .map (ρ n.id).ei (ρ n.id).ci) :: ((ρ n.id).mo, .map (ρ n.id).eo (ρ n.id).co) :: ((ρ n.id).sb ++ (NC ρ (restL g.nodes n.id) ++ NM ρ (restL g.nodes n.id)))) := by
  have hs := hI.lv n hn
  have hp := restL_perm hI.nd (List.mem_append_left g.ended hn)
  have h1 := NC_perm (ρ := ρ) hp
  have h2 := NM_perm (ρ := ρ) hp
  rw [NC_cons] at h1
  rw [NM_cons] at h2
  have e1 : cblk ρ n = ((ρ n.id).b, .cells (n.cells (.map (some (ρ n.id).mi)) (.map (some (ρ n.id).mo)) (ρ n.id).sv).toArray 72) := by
    unfold cblk ncell mvN; simp only [if_neg hs]
  have e2 : nmaps (ρ n.id) n = ((ρ n.id).mi, .map (ρ n.id).ei (ρ n.id).ci) :: ((ρ n.id).mo, .map (ρ n.id).eo (ρ n.id).co) :: (ρ n.id).sb := by
    unfold nmaps; rw [if_neg hs]; rfl
  rw [e1] at h1
  rw [e2] at h2
  refine (h1.append h2).trans ?_
  simp only [List.cons_append]
  refine List.Perm.cons _ ?_
  refine List.perm_middle.trans (List.Perm.cons _ ?_)
  refine List.perm_middle.trans (List.Perm.cons _ ?_)
  rw [← List.append_assoc, ← List.append_assoc]
  exact List.Perm.append_right _ List.perm_append_comm
theorem upd_snoc {l : List Nd} {vis : List Int} {k : Int} {f : Nd → Nd} (hid : ∀ n, (f n).id = n.id) (hi : ∀ n, f (f n) = f n) : updL (updL l (fun x => vis.contains x) f) (at1 k) f = updL l (fun x => (k :: vis).contains x) f := by
  rw [updL_two _ _ _ _ hid hi]
  congr 1
  funext x
  rw [Bool.eq_iff_iff]
  simp [at1, or_comm]
theorem upd_same {l : List Nd} {a b : List Int} {f : Nd → Nd} (h : ∀ x, x ∈ a ↔ x ∈ b) : updL l (fun x => a.contains x) f = updL l (fun x => b.contains x) f := by
  congr 1
  funext x
  rw [Bool.eq_iff_iff]
  simpa using h x
/-- a node that is not yet visited stands as it was -/
theorem upd_keep {l : List Nd} {vis : List Int} {f : Nd → Nd} {m : Nd} (hm : m ∈ l) (hv : m.id ∉ vis) : m ∈ updL l (fun x => vis.contains x) f := List.mem_map.2 ⟨m, hm, by rw [if_neg (by simpa using hv)]⟩
theorem klist_mem {ρ : Int → Raw} {l : List Int} {q : Int × Value} (h : q ∈ klist ρ l) : q.1 ∈ l ∧ q.2 = ptrB (ρ q.1).b := by
  obtain ⟨k, h1, h2⟩ := List.mem_map.1 h
  subst h2
  exact ⟨h1, rfl⟩
def Gr.abortQ (g : Gr) (tx : Int) : Gr := match findL g.nodes tx with
  | none => g
  | some n => if n.state = 2 then g else (g.off n none none g.commits []).forgetG
theorem abort_tri {K : Nat} {g : Gr} {M : Mem} (hI : Inv K g M) (hS : SymG g) {tx : Int} :
    Tri Try.prog 14 #[.pointer (some ⟨M.p, 0, none⟩), .int .i64 tx] (blks g M) fun v L => v = .tuple #[] ∧ ∃ M', L = blks (g.abortQ tx) M' ∧ Inv K (g.abortQ tx) M' ∧ M'.p = M.p := by
  have f_mixed := mixed; have f_en30 := en30; have f_en36 := en36; have f_fo66_2 := fo66_2; have f_fo72_2 := fo72_2; have f_fo72_6 := fo72_6; have f_fo72_7 := fo72_7; have f_ty3 := ty3; have f_ty64 := ty64; have f_ty69 := ty69; have f_un_64 : Und Try.prog 64 _ := ⟨Try.underlying64⟩; have f_un_69 : Und Try.prog 69 _ := ⟨Try.underlying69⟩; have f_zero69 := zero69; have f_zv69 := zv69
  have f_kl := KL3
  have hf1 := findG_tri hI (tx := tx)
  refine tri_intro (args := [_, _]) Try.func14 rfl Try.ntmps14 rfl (rs := []) rfl rfl fun E R => ?_
  cases h1 : findL g.nodes tx with
  | none =>
    have e1 : g.abortQ tx = g := by unfold Gr.abortQ; rw [h1]
    rw [e1]
    rw [h1] at hf1
    simp only [ptrO] at hf1
    simp only [fr, blks, hblk, gBlk, List.cons_append, List.nil_append, List.append_assoc]
    (refine sr_ ?_; (refine mv_ ?_); (refine mv_ ?_); (apply so_callq; (exact Ev.func); (focus ((apply EvL.cons; (exact ev_)); (apply EvL.cons; (exact ev_)); exact EvL.nil)); (focus (repeat (first | exact App.nil | apply App.cons))); assumption; exact hf1; (exact sel_); exact rfl); (refine asg_ ?_); refine sn_ ?_; (apply sc_seq); refine sr_ ?_; (refine mv_ ?_); (refine se_ (ex_eqp_t ev_ .const asm_) ?_); (refine mv_ ?_); (refine sk_ ?_); (refine sk_ ?_); (refine sk_ ?_); (refine sk_ ?_); (refine sk_ ?_); (refine se_ (ex_pick_t ev_ .const) ?_); refine sn_ ?_; (refine ct_ ?_); (apply sc_ret); (apply rt_then); (apply ret_ok; (focus (exact Res.nil)); (exact ⟨rfl, M, rfl, hI, rfl⟩); (exact sel_); (exact appb_)))
  | some n =>
    rw [h1] at hf1
    simp only [ptrO] at hf1
    obtain ⟨hn, hnid⟩ := findL_some h1
    by_cases hn2 : n.state = 2
    · have e1 : g.abortQ tx = g := by unfold Gr.abortQ; rw [h1]; dsimp only; rw [if_pos hn2]
      rw [e1]
      have hnc := nb_cell (ρ := M.ρ) hn
      simp only [ncell, Nd.cells] at hnc
      simp only [fr, blks, hblk, gBlk, List.cons_append, List.nil_append, List.append_assoc]
      have hn0 : n.state ≠ 0 := by rw [hn2]; decide
      (refine sr_ ?_; (refine mv_ ?_); (refine mv_ ?_); (apply so_callq; (exact Ev.func); (focus ((apply EvL.cons; (exact ev_)); (apply EvL.cons; (exact ev_)); exact EvL.nil)); (focus (repeat (first | exact App.nil | apply App.cons))); assumption; exact hf1; (exact sel_); exact rfl); (refine asg_ ?_); refine sn_ ?_; (apply sc_seq); refine sr_ ?_; (refine mv_ ?_); (refine se_ (ex_eqp_f ev_ .const asm_) ?_); (refine mv_ ?_); (refine wt_ ?_); (refine mv_ ?_); (refine wt_ ?_); (refine se_ (ex_nilCheck ev_) ?_); (refine wt_ ?_); (refine se_ (ex_fieldAddr ev_ asm_) ?_); (refine wt_ ?_); (refine se_ (ex_load1 ev_ asm_ mem_ nth_) ?_); (refine wt_ ?_); (refine se_ (ex_eql_t ev_ .const om_) ?_); (refine se_ (ex_pick_f ev_ ev_) ?_); refine sn_ ?_; (refine ct_ ?_); (apply sc_ret); (apply rt_then); (apply ret_ok; (focus (exact Res.nil)); (exact ⟨rfl, M, rfl, hI, rfl⟩); (exact sel_); (exact appb_)))
    · have hnl : n ∈ g.live := (List.mem_append.1 hn).resolve_right fun h => hn2 (hI.n.en n h)
      have e1 : g.abortQ tx = (g.off n none none g.commits []).forgetG := by unfold Gr.abortQ; rw [h1]; dsimp only; rw [if_neg hn2]
      rw [e1]
      have hsp := split_blks hI.n hnl
      obtain ⟨hgo, hso⟩ := off_gok (K' := K) (q1 := none) (q2 := none) (cm := g.commits) (es := []) hI.n.gok hS hnl (Nat.le_refl _) hI.n.sz.2.2.2 ⟨hI.n.sz.2.1, hI.n.sz.2.2.1⟩ (.inl rfl)
      refine sc_perm (L' := hblk g M ++ (((M.ρ n.id).b, .cells (n.cells (.map (some (M.ρ n.id).mi)) (.map (some (M.ρ n.id).mo)) (M.ρ n.id).sv).toArray 72) :: ((M.ρ n.id).mi, .map (M.ρ n.id).ei (M.ρ n.id).ci) :: ((M.ρ n.id).mo, .map (M.ρ n.id).eo (M.ρ n.id).co) :: ((M.ρ n.id).sb ++ (NC M.ρ (restL g.nodes n.id) ++ NM M.ρ (restL g.nodes n.id)))) ++ R) ?_ ?_
      · unfold blks
        exact (hsp.append_left _).append_right R
      have hL0 : LInv M.ρ (restL g.nodes n.id) := hI.n.linv.sub (fun x hx => (restL_sub _ _).subset hx) (hI.n.nd.sublist ((restL_sub _ _).map _))
      have hMi := hI.n.mi n hnl
      have hMo := hI.n.mo n hnl
      have hmlv : ∀ k, (∃ m ∈ g.live, m.id = k) → k ≠ n.id → ∃ m ∈ restL g.nodes n.id, m.id = k ∧ m.state ≠ 2 := fun k ⟨m, h2, h3⟩ h4 => ⟨m, restL_mem.2 ⟨List.mem_append_left _ h2, by rw [h3]; exact h4⟩, h3, hI.n.lv m h2⟩
      generalize hl0 : restL g.nodes n.id = l0 at *
      generalize hMp : M.ρ n.id = rn at *
      obtain ⟨nb, mi, mo, ei, ci, eo, co, sv, sb⟩ := rn
      simp only [fr, Nd.cells, hblk, gBlk, List.cons_append, List.nil_append, List.append_assoc] at hMi hMo ⊢
      dsimp only at hf1
      (refine sr_ ?_; (refine mv_ ?_); (refine mv_ ?_); (apply so_callq; (exact Ev.func); (focus ((apply EvL.cons; (exact ev_)); (apply EvL.cons; (exact ev_)); exact EvL.nil)); (focus (repeat (first | exact App.nil | apply App.cons))); assumption; exact hf1; (exact sel_); exact rfl); (refine asg_ ?_); refine sn_ ?_; (apply sc_seq); refine sr_ ?_; (refine mv_ ?_); (refine se_ (ex_eqp_f ev_ .const asm_) ?_); (refine mv_ ?_); (refine wt_ ?_); (refine mv_ ?_); (refine wt_ ?_); (refine se_ (ex_nilCheck ev_) ?_); (refine wt_ ?_); (refine se_ (ex_fieldAddr ev_ asm_) ?_); (refine wt_ ?_); (refine se_ (ex_load1 ev_ asm_ mem_ nth_) ?_); (refine wt_ ?_); (refine se_ (ex_eql_f ev_ .const om_) ?_); (refine se_ (ex_pick_f ev_ ev_) ?_); refine sn_ ?_; (refine cf_ ?_); (apply sc_skip); (apply nm_then); (apply sc_seq); refine sr_ ?_; (refine mv_ ?_); (refine se_ (ex_nilCheck ev_) ?_); (refine se_ (ex_fieldAddr ev_ asm_) ?_); (refine se_ (ex_load1 ev_ asm_ mem_ nth_) ?_); (apply so_range; (exact ev_); (exact mem_); assumption; exact rfl; intro _); refine sn_ ?_; (apply sc_block))
      rename_i r
      refine sc_loop (fun k f L => ∃ seen vis ρ', At f 0 (.pointer (some ⟨M.p, 0, none⟩)) ∧ At f 1 (.int .i64 tx) ∧ At f 4 (.pointer (some ⟨nb, 0, none⟩)) ∧ At f 25 (.pointer (some ⟨r, 0, none⟩)) ∧ Iter (Value.int .i64) ei ci seen vis ∧ (∀ x ∈ vis, x ∈ n.ins) ∧ k = (n.ins.filter fun x => decide (x ∉ vis)).length ∧
        (∀ k, (ρ' k).b = (M.ρ k).b) ∧ LInv ρ' (updL l0 (fun x => vis.contains x) (offR n.id none)) ∧
        Held L ((r, .mapIter (some mi) ci seen ci) :: (M.p, .cells [Value.int .i64 g.most, .int .i64 g.commits, .map (some M.lm), .map (some M.em)].toArray 66) :: (M.lm, .map M.esl M.cl) :: (M.em, .map M.ese M.ce) :: (nb, .cells [Value.int .i64 n.id, .int .i64 n.begin_, .int .i64 n.state, .int .i64 n.seq, .bool n.ro, .bool n.dm, .map (some mi), .map (some mo), .int .i64 n.reach, .int .i64 n.least, sv].toArray 72) :: (mi, .map ei ci) :: (mo, .map eo co) :: (sb ++ (NC ρ' (updL l0 (fun x => vis.contains x) (offR n.id none)) ++ NM ρ' (updL l0 (fun x => vis.contains x) (offR n.id none))))) R)
        _ ⟨#[], [], M.ρ, at_, at_, at_, at_, Iter.start hMi, by simp, rfl, fun _ => rfl, by rw [updL_out fun _ _ => rfl]; exact hL0, by rw [updL_out fun _ _ => rfl]; exact held_⟩ ?_
      rintro k f L ⟨seen, vis, ρ', a0, a1, a4, a25, hIt, hsub, hk, hb', hL', ⟨G, hG⟩⟩
      refine sc_perm hG ?_
      simp only [List.cons_append, List.append_assoc]
      ((apply sc_seq); (apply sc_region))
      apply so_nxt; (exact ev_); (intro _; (focus (repeat (first | exact Turn.here | apply Turn.there | apply Turn.pre)))); (exact mem_); assumption; assumption; (exact Nat.le_refl _); (exact ci_inj); exact rfl
      · intro hall
        have hvis : ∀ x, x ∈ vis ↔ x ∈ n.ins := fun x => ⟨hsub x, fun hx => hall (x, ptrB (M.ρ x).b) (List.mem_map.2 ⟨x, hx, rfl⟩)⟩
        rw [upd_same hvis] at hL' ⊢
        have hmlv1 : ∀ k, (∃ m ∈ g.live, m.id = k) → k ≠ n.id → ∃ m ∈ updL l0 (fun x => n.ins.contains x) (offR n.id none), m.id = k ∧ m.state ≠ 2 := fun k h2 h3 => by
          obtain ⟨m, h4, h5, h6⟩ := hmlv k h2 h3
          refine ⟨_, List.mem_map.2 ⟨m, h4, rfl⟩, ?_, ?_⟩
          · split <;> exact h5
          · split <;> exact h6
        have hfin : ∀ q, updL (updL l0 (fun x => n.ins.contains x) (offR n.id none)) (fun x => n.outs.contains x) (offW n.id none) = q → q = (g.off n none none g.commits []).nodes := fun q hq => by
          rw [← hq, ← hl0]
          have := offL_app g.live g.ended n none none
          rw [offL_live hI.n.gok hS hnl, offL_ended hI.n.gok hnl] at this
          unfold Gr.off
          show offL g.nodes n none none = _
          unfold Gr.nodes
          rw [this, List.append_nil]
        generalize hl1 : updL l0 (fun x => n.ins.contains x) (offR n.id none) = l1 at *
        clear hk hsub hIt hvis hall
        ((refine se_ (ex_extract ev_ nth_) ?_); refine sn_ ?_; (apply sc_seq); (refine cf_ ?_); (apply sc_exit); (apply et_then); (apply et_then); (apply et_hit); (apply nm_then); (apply sc_seq); refine sr_ ?_; (refine mv_ ?_); (refine se_ (ex_nilCheck ev_) ?_); (refine se_ (ex_fieldAddr ev_ asm_) ?_); (refine se_ (ex_load1 ev_ asm_ mem_ nth_) ?_); (apply so_range; (exact ev_); (exact mem_); assumption; exact rfl; intro _); refine sn_ ?_; (apply sc_block))
        rename_i r2
        refine sc_loop (fun k f L => ∃ seen vis ρ', At f 0 (.pointer (some ⟨M.p, 0, none⟩)) ∧ At f 1 (.int .i64 tx) ∧ At f 4 (.pointer (some ⟨nb, 0, none⟩)) ∧ At f 39 (.pointer (some ⟨r2, 0, none⟩)) ∧ Iter (Value.int .i64) eo co seen vis ∧ (∀ x ∈ vis, x ∈ n.outs) ∧ k = (n.outs.filter fun x => decide (x ∉ vis)).length ∧
          (∀ k, (ρ' k).b = (M.ρ k).b) ∧ LInv ρ' (updL l1 (fun x => vis.contains x) (offW n.id none)) ∧
          Held L ((r2, .mapIter (some mo) co seen co) :: (M.p, .cells [Value.int .i64 g.most, .int .i64 g.commits, .map (some M.lm), .map (some M.em)].toArray 66) :: (M.lm, .map M.esl M.cl) :: (M.em, .map M.ese M.ce) :: (nb, .cells [Value.int .i64 n.id, .int .i64 n.begin_, .int .i64 n.state, .int .i64 n.seq, .bool n.ro, .bool n.dm, .map (some mi), .map (some mo), .int .i64 n.reach, .int .i64 n.least, sv].toArray 72) :: (mi, .map ei ci) :: (mo, .map eo co) :: (sb ++ (NC ρ' (updL l1 (fun x => vis.contains x) (offW n.id none)) ++ NM ρ' (updL l1 (fun x => vis.contains x) (offW n.id none))))) R)
          _ ⟨#[], [], ρ', at_, at_, at_, at_, Iter.start hMo, by simp, rfl, hb', by rw [updL_out fun _ _ => rfl]; exact hL', by rw [updL_out fun _ _ => rfl]; exact held_⟩ ?_
        clear hL' hb' hG a0 a1 a4 a25
        rintro k f L ⟨seen, vis, ρ', a0, a1, a4, a39, hIt, hsub, hk, hb', hL', ⟨G, hG⟩⟩
        refine sc_perm hG ?_
        simp only [List.cons_append, List.append_assoc]
        ((apply sc_seq); (apply sc_region))
        apply so_nxt; (exact ev_); (intro _; (focus (repeat (first | exact Turn.here | apply Turn.there | apply Turn.pre)))); (exact mem_); assumption; assumption; (exact Nat.le_refl _); (exact ci_inj); exact rfl
        · intro hall
          have hvis : ∀ x, x ∈ vis ↔ x ∈ n.outs := fun x => ⟨hsub x, fun hx => hall (x, ptrB (M.ρ x).b) (List.mem_map.2 ⟨x, hx, rfl⟩)⟩
          rw [upd_same hvis] at hL' ⊢
          rw [hfin _ rfl] at hL' ⊢
          have hml := hI.ml
          have hme := hI.me
          have hids : ((restL g.live n.id).map (off1 n none none)).map (·.id) = (restL g.live n.id).map (·.id) := by rw [List.map_map]; rfl
          have hdl : delV (mlist M.ρ g.live) tx = mlist ρ' (g.off n none none g.commits []).live := by
            unfold delV
            show (mlist M.ρ g.live).filter _ = mlist ρ' ((restL g.live n.id).map (off1 n none none))
            rw [mlist_ids hb' hids, hnid]
            unfold mlist restL
            rw [List.filter_map]
            rfl
          have hde : mlist M.ρ g.ended = mlist ρ' (g.off n none none g.commits []).ended := by
            show _ = mlist ρ' (g.ended ++ [])
            rw [List.append_nil, mlist_congr hb']
          generalize hg3 : g.off n none none g.commits [] = g3 at *
          have hg3m : g3.most = g.most ∧ g3.commits = g.commits := by rw [← hg3]; exact ⟨rfl, rfl⟩
          ((refine se_ (ex_extract ev_ nth_) ?_); refine sn_ ?_; (apply sc_seq); (refine cf_ ?_); (apply sc_exit); (apply et_then); (apply et_then); (apply et_hit); (apply nm_then); refine sr_ ?_; (refine mv_ ?_); (refine se_ (ex_nilCheck ev_) ?_); (refine se_ (ex_fieldAddr ev_ asm_) ?_); (refine se_ (ex_load1 ev_ asm_ mem_ nth_) ?_); (refine mv_ ?_); (apply so_del; (exact ev_); (intro _ _; (focus (repeat (first | exact Turn.here | apply Turn.there | apply Turn.pre)))); assumption; (exact ev_); (first | exact keyEq .. | exact rfl); assumption; assumption; intro _ _ _); refine sn_ ?_; (apply sc_region); (refine mv_ ?_))
          rename_i es1 hm1 hs1
          rw [hdl] at hm1
          have hI3 : Inv K g3 { M with esl := es1, ρ := ρ' } := ⟨invN_of hgo hL', hm1, by rw [← hde]; exact hme⟩
          have hft := forgetG_tri hI3
          simp only [blks, hblk, gBlk, List.cons_append, List.nil_append, hg3m.1, hg3m.2] at hft
          (apply so_call; (exact Ev.func); (focus ((apply EvL.cons; (exact ev_)); exact EvL.nil)); (focus (repeat (first | exact App.nil | apply App.cons))); assumption; (exact hft); (exact sel_); exact rfl)
          rintro v L ⟨rfl, M', rfl, hI4, hp4, _⟩
          simp only [blks, hblk, gBlk, List.cons_append, List.nil_append, List.append_assoc]
          ((apply so_nil))
          (apply ret_ok'; (focus (exact Res.nil)); (exact ⟨rfl, M', rfl, hI4, hp4⟩); (exact sel_); (exact appb_))
        · rintro ⟨k1, v1⟩ seen' hp hnv hIt' hcur
          obtain ⟨hk1, hv1⟩ := klist_mem hp
          simp only at hk1 hv1 hnv hIt' hcur
          subst hv1
          obtain ⟨hkne, hkl⟩ := hI.n.co n hnl k1 hk1
          obtain ⟨m, hm, rfl, hms⟩ := hmlv1 k1 hkl hkne
          have hmv := upd_keep (f := offW n.id none) hm hnv
          have hmc := nb_cell (ρ := ρ') hmv
          have hmm := nb_ins (ρ := ρ') hmv hms
          have hT : ∀ es c, Turn (NM ρ' (updL l1 (fun x => vis.contains x) (offW n.id none))) (ρ' m.id).mi (.map (ρ' m.id).ei (ρ' m.id).ci) (.map es c) (NM (setI ρ' m.id es c) (updL l1 (fun x => (m.id :: vis).contains x) (offW n.id none))) := fun es c => by
            have := turn_ins (ρ := ρ') (es := es) (c := c) (f := offW n.id none) hmv hL'.nd hms ⟨_, rfl⟩
            rwa [upd_snoc (f := offW n.id none) (fun _ => rfl) (offW_two _ _)] at this
          have hMm := hL'.mi m hmv hms
          have hNC : ∀ es c, NC ρ' (updL l1 (fun x => vis.contains x) (offW n.id none)) = NC (setI ρ' m.id es c) (updL l1 (fun x => (m.id :: vis).contains x) (offW n.id none)) := fun es c => by
            rw [NC_setI, ← upd_snoc (f := offW n.id none) (fun _ => rfl) (offW_two _ _)]
            exact (NC_upd fun n => ⟨_, _, rfl⟩).symm
          have hLn : ∀ es, MapOf (Value.int .i64) (delV (klist ρ' m.ins) n.id) es (ρ' m.id).ci → LInv (setI ρ' m.id es (ρ' m.id).ci) (updL l1 (fun x => (m.id :: vis).contains x) (offW n.id none)) := fun es hes => by
            rw [← upd_snoc (f := offW n.id none) (fun _ => rfl) (offW_two _ _)]
            rw [delV_klist] at hes
            exact hL'.inss hmv (fun _ => ⟨_, rfl⟩) hes
          rw [show ncell (ρ' m.id) m = m.cells (.map (some (ρ' m.id).mi)) (mvN m (ρ' m.id).mo) (ρ' m.id).sv from by unfold ncell mvN; simp only [if_neg hms], hb'] at hmc
          simp only [Nd.cells] at hmc
          ((refine se_ (ex_extract ev_ nth_) ?_); refine sn_ ?_; (apply sc_seq); (refine ct_ ?_); (apply sc_skip); (apply nm_then); (apply sc_block); refine sr_ ?_; (refine se_ (ex_ent ev_ mem_ mem_ asm_ asm_) ?_); (refine se_ (ex_extract ev_ nth_) ?_); (refine asg_ ?_); refine sn_ ?_; (apply sc_region); (refine mv_ ?_); (refine se_ (ex_nilCheck ev_) ?_); (refine se_ (ex_fieldAddr ev_ asm_) ?_); (refine se_ (ex_load1 ev_ asm_ mem_ nth_) ?_); (refine mv_ ?_); (apply so_del; (exact ev_); (intro es' c'; (repeat (first | exact Turn.left (hT es' c') _ | apply Turn.there | apply Turn.pre))); exact hMm; (exact ev_); exact rfl; assumption; assumption; intro es1 hm1 hs1); (apply so_nil); (apply nm_block); (apply nm_then))
          exact ⟨_, by rw [hk]; exact unseen_lt hk1 hnv, seen', m.id :: vis, setI ρ' m.id es1 (ρ' m.id).ci, at_, at_, at_, at_, hIt', List.forall_mem_cons.2 ⟨hk1, hsub⟩, rfl, fun k => by rw [(setI_b ρ' m.id es1 (ρ' m.id).ci k).1, hb'], hLn _ (by rw [hnid]; exact hm1), by rw [← hNC]; exact held_⟩
      · rintro ⟨k1, v1⟩ seen' hp hnv hIt' hcur
        obtain ⟨hk1, hv1⟩ := klist_mem hp
        simp only at hk1 hv1 hnv hIt' hcur
        subst hv1
        obtain ⟨hkne, hkl⟩ := hI.n.ci n hnl k1 hk1
        obtain ⟨m, hm, rfl, hms⟩ := hmlv k1 hkl hkne
        have hmv := upd_keep (f := offR n.id none) hm hnv
        have hmc := nb_cell (ρ := ρ') hmv
        have hmm := nb_outs (ρ := ρ') hmv hms
        have hT : ∀ es c, Turn (NM ρ' (updL l0 (fun x => vis.contains x) (offR n.id none))) (ρ' m.id).mo (.map (ρ' m.id).eo (ρ' m.id).co) (.map es c) (NM (setO ρ' m.id es c) (updL l0 (fun x => (m.id :: vis).contains x) (offR n.id none))) := fun es c => by
          have := turn_outs (ρ := ρ') (es := es) (c := c) (f := offR n.id none) hmv hL'.nd hms ⟨_, rfl⟩
          rwa [upd_snoc (f := offR n.id none) (fun _ => rfl) (offR_two _ _)] at this
        have hMm := hL'.mo m hmv hms
        have hNC : ∀ es c, NC ρ' (updL l0 (fun x => vis.contains x) (offR n.id none)) = NC (setO ρ' m.id es c) (updL l0 (fun x => (m.id :: vis).contains x) (offR n.id none)) := fun es c => by
          rw [NC_setO, ← upd_snoc (f := offR n.id none) (fun _ => rfl) (offR_two _ _)]
          exact (NC_upd fun n => ⟨_, _, rfl⟩).symm
        have hLn : ∀ es, MapOf (Value.int .i64) (delV (klist ρ' m.outs) n.id) es (ρ' m.id).co → LInv (setO ρ' m.id es (ρ' m.id).co) (updL l0 (fun x => (m.id :: vis).contains x) (offR n.id none)) := fun es hes => by
          rw [← upd_snoc (f := offR n.id none) (fun _ => rfl) (offR_two _ _)]
          rw [delV_klist] at hes
          exact hL'.outs hmv (fun _ => ⟨_, rfl⟩) hes
        rw [show ncell (ρ' m.id) m = m.cells (mvN m (ρ' m.id).mi) (.map (some (ρ' m.id).mo)) (ρ' m.id).sv from by unfold ncell mvN; simp only [if_neg hms], hb'] at hmc
        simp only [Nd.cells] at hmc
        ((refine se_ (ex_extract ev_ nth_) ?_); refine sn_ ?_; (apply sc_seq); (refine ct_ ?_); (apply sc_skip); (apply nm_then); (apply sc_block); refine sr_ ?_; (refine se_ (ex_ent ev_ mem_ mem_ asm_ asm_) ?_); (refine se_ (ex_extract ev_ nth_) ?_); (refine asg_ ?_); refine sn_ ?_; (apply sc_region); (refine mv_ ?_); (refine se_ (ex_nilCheck ev_) ?_); (refine se_ (ex_fieldAddr ev_ asm_) ?_); (refine se_ (ex_load1 ev_ asm_ mem_ nth_) ?_); (refine mv_ ?_); (apply so_del; (exact ev_); (intro es' c'; (repeat (first | exact Turn.left (hT es' c') _ | apply Turn.there | apply Turn.pre))); exact hMm; (exact ev_); exact rfl; assumption; assumption; intro es1 hm1 hs1); (apply so_nil); (apply nm_block); (apply nm_then))
        exact ⟨_, by rw [hk]; exact unseen_lt hk1 hnv, seen', m.id :: vis, setO ρ' m.id es1 (ρ' m.id).co, at_, at_, at_, at_, hIt', List.forall_mem_cons.2 ⟨hk1, hsub⟩, rfl, fun k => by rw [(setO_b ρ' m.id es1 (ρ' m.id).co k).1, hb'], hLn _ (by rw [hnid]; exact hm1), by rw [← hNC]; exact held_⟩
end Go.Proofs.Ytomgkmoecbnddaa
