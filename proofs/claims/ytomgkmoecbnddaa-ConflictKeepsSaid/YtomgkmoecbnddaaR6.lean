/- Conflict: Commit. -/
import Derived.Test.YtomgkmoecbnddaaR5
set_option linter.unusedVariables false
set_option linter.unusedSimpArgs false
set_option linter.unnecessarySimpa false
namespace Go.Proofs.Ytomgkmoecbnddaa
open Go.Sym

theorem turn_outsF {ρ : Int → Raw} {l : List Nd} {n : Nd} {f : Nd → Nd} {es : Array MapEntry} {c : Nat} (hm : n ∈ l) (hn : (l.map (·.id)).Nodup) (hs : n.state ≠ 2) (hf : (f n).id = n.id ∧ (f n).state = n.state) :
    Turn (NM ρ l) (ρ n.id).mo (.map (ρ n.id).eo (ρ n.id).co) (.map es c) (NM (setO ρ n.id es c) (updL l (at1 n.id) f)) := by
  refine turn_gen hm hn (fun k hk => by unfold setO; rw [if_neg hk]) hf.1 ?_
  unfold nmaps setO
  simp only [hf.2, if_neg hs, if_true]
  exact .there .here
theorem turn_insF {ρ : Int → Raw} {l : List Nd} {n : Nd} {f : Nd → Nd} {es : Array MapEntry} {c : Nat} (hm : n ∈ l) (hn : (l.map (·.id)).Nodup) (hs : n.state ≠ 2) (hf : (f n).id = n.id ∧ (f n).state = n.state) :
    Turn (NM ρ l) (ρ n.id).mi (.map (ρ n.id).ei (ρ n.id).ci) (.map es c) (NM (setI ρ n.id es c) (updL l (at1 n.id) f)) := by
  refine turn_gen hm hn (fun k hk => by unfold setI; rw [if_neg hk]) hf.1 ?_
  unfold nmaps setI
  simp only [hf.2, if_neg hs, if_true]
  exact .here
theorem LInv.outsF {ρ : Int → Raw} {l : List Nd} (h : LInv ρ l) {r : Nd} (hr : r ∈ l) {f : Nd → Nd} {es : Array MapEntry} {c : Nat} (hid : ∀ n, (f n).id = n.id) (hf : (f r).ins = r.ins ∧ (f r).beside = r.beside ∧ (f r).state = r.state) (hM : MapOf (Value.int .i64) (klist ρ (f r).outs) es c) : LInv (setO ρ r.id es c) (updL l (at1 r.id) f) := by
  have hb : ∀ k, (setO ρ r.id es c k).b = (ρ k).b := fun k => (setO_b ρ r.id es c k).1
  refine ⟨by rw [updL_ids hid]; exact h.nd, fun m hm hs => ?_, fun m hm hs => ?_, fun m hm => ?_⟩
  · rw [klist_congr hb, (setO_b ρ r.id es c m.id).2.2.2.1, (setO_b ρ r.id es c m.id).2.2.2.2.1]
    rcases upd1_mem h hr hm with rfl | ⟨h1, _⟩
    · rw [hf.2.2] at hs; rw [hid, hf.1]; exact h.mi r hr hs
    · exact h.mi m h1 hs
  · rw [klist_congr hb]
    rcases upd1_mem h hr hm with rfl | ⟨h1, h2⟩
    · rw [hid]; unfold setO; rw [if_pos rfl]; exact hM
    · unfold setO; rw [if_neg h2]; exact h.mo m h1 hs
  · rw [(setO_b ρ r.id es c m.id).2.2.2.2.2.1, (setO_b ρ r.id es c m.id).2.2.2.2.2.2]
    rcases upd1_mem h hr hm with rfl | ⟨h1, _⟩
    · rw [hid, hf.2.1]; exact h.bs r hr
    · exact h.bs m h1
theorem LInv.inssF {ρ : Int → Raw} {l : List Nd} (h : LInv ρ l) {r : Nd} (hr : r ∈ l) {f : Nd → Nd} {es : Array MapEntry} {c : Nat} (hid : ∀ n, (f n).id = n.id) (hf : (f r).outs = r.outs ∧ (f r).beside = r.beside ∧ (f r).state = r.state) (hM : MapOf (Value.int .i64) (klist ρ (f r).ins) es c) : LInv (setI ρ r.id es c) (updL l (at1 r.id) f) := by
  have hb : ∀ k, (setI ρ r.id es c k).b = (ρ k).b := fun k => (setI_b ρ r.id es c k).1
  refine ⟨by rw [updL_ids hid]; exact h.nd, fun m hm hs => ?_, fun m hm hs => ?_, fun m hm => ?_⟩
  · rw [klist_congr hb]
    rcases upd1_mem h hr hm with rfl | ⟨h1, h2⟩
    · rw [hid]; unfold setI; rw [if_pos rfl]; exact hM
    · unfold setI; rw [if_neg h2]; exact h.mi m h1 hs
  · rw [klist_congr hb, (setI_b ρ r.id es c m.id).2.2.2.1, (setI_b ρ r.id es c m.id).2.2.2.2.1]
    rcases upd1_mem h hr hm with rfl | ⟨h1, _⟩
    · rw [hf.2.2] at hs; rw [hid, hf.1]; exact h.mo r hr hs
    · exact h.mo m h1 hs
  · rw [(setI_b ρ r.id es c m.id).2.2.2.2.2.1, (setI_b ρ r.id es c m.id).2.2.2.2.2.2]
    rcases upd1_mem h hr hm with rfl | ⟨h1, _⟩
    · rw [hid, hf.2.1]; exact h.bs r hr
    · exact h.bs m h1
/-- the node, committed -/
def doneN (n : Nd) (c : Int) : Nd := { n with state := 2, seq := c, ins := [], outs := [] }
def Gr.doneG (g : Gr) (n : Nd) : Gr := g.off n (some (g.commits + 1)) (some (doneN n (g.commits + 1)).far) (g.commits + 1) [doneN n (g.commits + 1)]
def Gr.commitQ (g : Gr) (tx : Int) : Gr := match findL g.nodes tx with
  | none => g
  | some n => if n.state = 2 then g else (g.doneG n).forgetG
theorem commit_tri {K : Nat} {g : Gr} {M : Mem} (hI : Inv K g M) (hS : SymG g) (hK : K + 1 ≤ 4000) {tx : Int} :
    Tri Try.prog 16 #[.pointer (some ⟨M.p, 0, none⟩), .int .i64 tx] (blks g M) fun v L => v = .tuple #[] ∧ ∃ M', L = blks (g.commitQ tx) M' ∧ Inv (K + 1) (g.commitQ tx) M' ∧ M'.p = M.p := by
  have f_mixed := mixed; have f_en30 := en30; have f_en36 := en36; have f_en38 := en38; have f_fo66_1 := fo66_1; have f_fo66_2 := fo66_2; have f_fo66_3 := fo66_3; have f_fo72_2 := fo72_2; have f_fo72_3 := fo72_3; have f_fo72_6 := fo72_6; have f_fo72_7 := fo72_7; have f_fo72_8 := fo72_8; have f_fo72_9 := fo72_9; have f_ty3 := ty3; have f_ty64 := ty64; have f_ty69 := ty69; have f_un_64 : Und Try.prog 64 _ := ⟨Try.underlying64⟩; have f_un_69 : Und Try.prog 69 _ := ⟨Try.underlying69⟩; have f_zero69 := zero69; have f_zv69 := zv69
  have f_kl := KL3
  have hf1 := findG_tri hI (tx := tx)
  have hmono : ∀ {g : Gr} {M : Mem}, Inv K g M → Inv (K + 1) g M := fun h => ⟨invN_of ⟨h.n.nd, h.n.lv, h.n.en, h.n.ci, h.n.co, h.n.em, fun n hn => by have := h.n.rg n hn; omega, by have := h.n.sz; omega⟩ h.n.linv, h.ml, h.me⟩
  refine tri_intro (args := [_, _]) Try.func16 rfl Try.ntmps16 rfl (rs := []) rfl rfl fun E R => ?_
  cases h1 : findL g.nodes tx with
  | none =>
    have e1 : g.commitQ tx = g := by unfold Gr.commitQ; rw [h1]
    rw [e1]
    rw [h1] at hf1
    simp only [ptrO] at hf1
    simp only [fr, blks, hblk, gBlk, List.cons_append, List.nil_append, List.append_assoc]
    (refine sr_ ?_; (refine mv_ ?_); (refine mv_ ?_); (apply so_callq; (exact Ev.func); (focus ((apply EvL.cons; (exact ev_)); (apply EvL.cons; (exact ev_)); exact EvL.nil)); (focus (repeat (first | exact App.nil | apply App.cons))); assumption; exact hf1; (exact sel_); exact rfl); (refine asg_ ?_); refine sn_ ?_; (apply sc_seq); refine sr_ ?_; (refine mv_ ?_); (refine se_ (ex_eqp_t ev_ .const asm_) ?_); (refine mv_ ?_); (refine sk_ ?_); (refine sk_ ?_); (refine sk_ ?_); (refine sk_ ?_); (refine sk_ ?_); (refine se_ (ex_pick_t ev_ .const) ?_); refine sn_ ?_; (refine ct_ ?_); (apply sc_ret); (apply rt_then); (apply ret_ok; (focus (exact Res.nil)); (exact ⟨rfl, M, rfl, hmono hI, rfl⟩); (exact sel_); (exact appb_)))
  | some n =>
    rw [h1] at hf1
    simp only [ptrO] at hf1
    obtain ⟨hn, hnid⟩ := findL_some h1
    by_cases hn2 : n.state = 2
    · have e1 : g.commitQ tx = g := by unfold Gr.commitQ; rw [h1]; dsimp only; rw [if_pos hn2]
      rw [e1]
      have hnc := nb_cell (ρ := M.ρ) hn
      simp only [ncell, Nd.cells] at hnc
      simp only [fr, blks, hblk, gBlk, List.cons_append, List.nil_append, List.append_assoc]
      (refine sr_ ?_; (refine mv_ ?_); (refine mv_ ?_); (apply so_callq; (exact Ev.func); (focus ((apply EvL.cons; (exact ev_)); (apply EvL.cons; (exact ev_)); exact EvL.nil)); (focus (repeat (first | exact App.nil | apply App.cons))); assumption; exact hf1; (exact sel_); exact rfl); (refine asg_ ?_); refine sn_ ?_; (apply sc_seq); refine sr_ ?_; (refine mv_ ?_); (refine se_ (ex_eqp_f ev_ .const asm_) ?_); (refine mv_ ?_); (refine wt_ ?_); (refine mv_ ?_); (refine wt_ ?_); (refine se_ (ex_nilCheck ev_) ?_); (refine wt_ ?_); (refine se_ (ex_fieldAddr ev_ asm_) ?_); (refine wt_ ?_); (refine se_ (ex_load1 ev_ asm_ mem_ nth_) ?_); (refine wt_ ?_); (refine se_ (ex_eql_t ev_ .const om_) ?_); (refine se_ (ex_pick_f ev_ ev_) ?_); refine sn_ ?_; (refine ct_ ?_); (apply sc_ret); (apply rt_then); (apply ret_ok; (focus (exact Res.nil)); (exact ⟨rfl, M, rfl, hmono hI, rfl⟩); (exact sel_); (exact appb_)))
    · have hnl : n ∈ g.live := (List.mem_append.1 hn).resolve_right fun h => hn2 (hI.n.en n h)
      have e1 : g.commitQ tx = (g.doneG n).forgetG := by unfold Gr.commitQ; rw [h1]; dsimp only; rw [if_neg hn2]
      rw [e1]
      have hsp := split_blks hI.n hnl
      have hrg := hI.n.rg n hn
      have hsz := hI.n.sz
      obtain ⟨hgo, hso⟩ := off_gok (K' := K + 1) (q1 := some (g.commits + 1)) (q2 := some (doneN n (g.commits + 1)).far) (cm := g.commits + 1) (es := [doneN n (g.commits + 1)]) hI.n.gok hS hnl (by omega) hK (by omega) (.inr ⟨_, rfl, rfl, rfl, rfl, rfl, by show 0 ≤ n.begin_; omega, by show n.begin_ ≤ _; omega, by show 0 ≤ g.commits + 1; omega, by show g.commits + 1 ≤ _; omega⟩)
      refine sc_perm (L' := hblk g M ++ (((M.ρ n.id).b, .cells (n.cells (.map (some (M.ρ n.id).mi)) (.map (some (M.ρ n.id).mo)) (M.ρ n.id).sv).toArray 72) :: ((M.ρ n.id).mi, .map (M.ρ n.id).ei (M.ρ n.id).ci) :: ((M.ρ n.id).mo, .map (M.ρ n.id).eo (M.ρ n.id).co) :: ((M.ρ n.id).sb ++ (NC M.ρ (restL g.nodes n.id) ++ NM M.ρ (restL g.nodes n.id)))) ++ R) ?_ ?_
      · unfold blks
        exact (hsp.append_left _).append_right R
      have hL0 : LInv M.ρ (restL g.nodes n.id) := hI.n.linv.sub (fun x hx => (restL_sub _ _).subset hx) (hI.n.nd.sublist ((restL_sub _ _).map _))
      have hMi := hI.n.mi n hnl
      have hMo := hI.n.mo n hnl
      have hBs := hI.n.bs n hn
      have hmlv : ∀ k, (∃ m ∈ g.live, m.id = k) → k ≠ n.id → ∃ m ∈ restL g.nodes n.id, m.id = k ∧ m.state ≠ 2 := fun k ⟨m, h2, h3⟩ h4 => ⟨m, restL_mem.2 ⟨List.mem_append_left _ h2, by rw [h3]; exact h4⟩, h3, hI.n.lv m h2⟩
      have hfar : TriQ Try.prog 38 #[.pointer (some ⟨(M.ρ n.id).b, 0, none⟩)] [((M.ρ n.id).b, .cells (({ n with state := 2, seq := g.commits + 1 } : Nd).cells (.map (some (M.ρ n.id).mi)) (.map (some (M.ρ n.id).mo)) (M.ρ n.id).sv).toArray 72)] (.int .i64 (doneN n (g.commits + 1)).far) := far_tri (n := { n with state := 2, seq := g.commits + 1 }) (by show n.begin_ < _ ∧ g.commits + 1 < _ ∧ 0 ≤ n.begin_ ∧ 0 ≤ g.commits + 1; omega)
      generalize hfq : (doneN n (g.commits + 1)).far = fq at *
      have hrho : ∀ ρ' : Int → Raw, (∀ k, (ρ' k).b = (M.ρ k).b ∧ (ρ' k).sv = (M.ρ k).sv ∧ (ρ' k).sb = (M.ρ k).sb) → cblk ρ' (doneN n (g.commits + 1)) = ((M.ρ n.id).b, .cells (Nd.cells (doneN n (g.commits + 1)) (.map none) (.map none) (M.ρ n.id).sv).toArray 72) ∧ nmaps (ρ' n.id) (doneN n (g.commits + 1)) = (M.ρ n.id).sb := fun ρ' h => by
        refine ⟨?_, ?_⟩
        · unfold cblk ncell mvN
          show ((ρ' n.id).b, _) = _
          rw [(h n.id).1]
          show (_, Obj.cells (Nd.cells (doneN n (g.commits + 1)) (if (2 : Int) = 2 then _ else _) (if (2 : Int) = 2 then _ else _) (ρ' n.id).sv).toArray 72) = _
          rw [if_pos rfl, if_pos rfl, (h n.id).2.1]
        · unfold nmaps
          show (if (2 : Int) = 2 then _ else _) ++ _ = _
          rw [if_pos rfl, (h n.id).2.2]; rfl
      have hfin : updL (updL (restL g.nodes n.id) (fun x => n.ins.contains x) (offR n.id (some (g.commits + 1)))) (fun x => n.outs.contains x) (offW n.id (some fq)) ++ [doneN n (g.commits + 1)] = (g.doneG n).nodes := by
        have := offL_app g.live g.ended n (some (g.commits + 1)) (some fq)
        rw [offL_live hI.n.gok hS hnl, offL_ended hI.n.gok hnl] at this
        unfold Gr.doneG Gr.off
        show offL g.nodes n _ _ ++ _ = _
        unfold Gr.nodes
        rw [this, hfq, List.append_assoc]
      have hml : ∀ ρ' : Int → Raw, (∀ k, (ρ' k).b = (M.ρ k).b) → delV (mlist M.ρ g.live) tx = mlist ρ' (g.doneG n).live := fun ρ' hb => by
        have hids : ((restL g.live n.id).map (off1 n (some (g.commits + 1)) (some fq))).map (·.id) = (restL g.live n.id).map (·.id) := by rw [List.map_map]; rfl
        unfold delV
        show (mlist M.ρ g.live).filter _ = mlist ρ' ((restL g.live n.id).map (off1 n _ (some (doneN n (g.commits + 1)).far)))
        rw [hfq, mlist_ids hb hids, hnid]
        unfold mlist restL
        rw [List.filter_map]
        rfl
      have hme : ∀ ρ' : Int → Raw, (∀ k, (ρ' k).b = (M.ρ k).b) → putV (mlist M.ρ g.ended) tx (ptrB (M.ρ n.id).b) = mlist ρ' (g.doneG n).ended := fun ρ' hb => by
        have hno : hasK (mlist M.ρ g.ended) tx = false := by
          rw [← lookV_isSome, lookV_mlist]
          cases hf : findL g.ended tx with
          | none => rfl
          | some m =>
            obtain ⟨h2, h3⟩ := findL_some hf
            have h4 := hI.n.linv.uniq (List.mem_append_right _ h2) hn (h3.trans hnid.symm)
            rw [h4] at h2
            exact absurd (hI.n.en n h2) hn2
        unfold putV
        rw [hno, if_neg (by decide)]
        show _ = mlist ρ' (g.ended ++ [doneN n (g.commits + 1)])
        rw [mlist_congr hb]
        unfold mlist
        rw [List.map_append, ← hnid]
        rfl
      have hmL := hI.ml
      have hmE := hI.me
      generalize hl0 : restL g.nodes n.id = l0 at *
      generalize hMp : M.ρ n.id = rn at *
      obtain ⟨nb, mi, mo, ei, ci, eo, co, sv, sb⟩ := rn
      simp only [fr, Nd.cells, hblk, gBlk, List.cons_append, List.nil_append, List.append_assoc] at hMi hMo hfar hrho ⊢
      dsimp only at hf1 hme hBs
      have hcw : IntKind.i64.wrap (g.commits + 1) = g.commits + 1 := wrap_in (by unfold InI; omega)
      (refine sr_ ?_; (refine mv_ ?_); (refine mv_ ?_); (apply so_callq; (exact Ev.func); (focus ((apply EvL.cons; (exact ev_)); (apply EvL.cons; (exact ev_)); exact EvL.nil)); (focus (repeat (first | exact App.nil | apply App.cons))); assumption; exact hf1; (exact sel_); exact rfl); (refine asg_ ?_); refine sn_ ?_; (apply sc_seq); refine sr_ ?_; (refine mv_ ?_); (refine se_ (ex_eqp_f ev_ .const asm_) ?_); (refine mv_ ?_); (refine wt_ ?_); (refine mv_ ?_); (refine wt_ ?_); (refine se_ (ex_nilCheck ev_) ?_); (refine wt_ ?_); (refine se_ (ex_fieldAddr ev_ asm_) ?_); (refine wt_ ?_); (refine se_ (ex_load1 ev_ asm_ mem_ nth_) ?_); (refine wt_ ?_); (refine se_ (ex_eql_f ev_ .const om_) ?_); (refine se_ (ex_pick_f ev_ ev_) ?_); refine sn_ ?_; (refine cf_ ?_); (apply sc_skip); (apply nm_then); refine sr_ ?_; (refine mv_ ?_); (refine se_ (ex_nilCheck ev_) ?_); (refine se_ (ex_fieldAddr ev_ asm_) ?_); (refine se_ (ex_load1 ev_ asm_ mem_ nth_) ?_); (refine se_ (ex_add ev_ .const wr_) ?_); (refine se_ (ex_nilCheck ev_) ?_); (refine se_ (ex_fieldAddr ev_ asm_) ?_); (apply so_store; (exact ev_); (exact ev_); assumption; exact rfl; exact rfl; exact rfl; (focus (repeat (first | exact Turn.here | apply Turn.there | apply Turn.pre))); (focus (repeat (first | exact SetSub.nil | apply SetSub.take | apply SetSub.drop)))); refine sn_ ?_; refine sr_ ?_; (refine mv_ ?_); (refine mv_ ?_); (refine mv_ ?_); (refine se_ (ex_nilCheck ev_) ?_); (refine se_ (ex_fieldAddr ev_ asm_) ?_); (refine se_ (ex_load1 ev_ asm_ mem_ nth_) ?_); (refine se_ (ex_nilCheck ev_) ?_); (refine se_ (ex_fieldAddr ev_ asm_) ?_); (apply so_store; (exact ev_); (exact Ev.const); assumption; exact rfl; exact rfl; exact rfl; (focus (repeat (first | exact Turn.here | apply Turn.there | apply Turn.pre))); (focus (repeat (first | exact SetSub.nil | apply SetSub.take | apply SetSub.drop)))); (refine se_ (ex_nilCheck ev_) ?_); (refine se_ (ex_fieldAddr ev_ asm_) ?_); (apply so_store; (exact ev_); (exact ev_); assumption; exact rfl; exact rfl; exact rfl; (focus (repeat (first | exact Turn.here | apply Turn.there | apply Turn.pre))); (focus (repeat (first | exact SetSub.nil | apply SetSub.take | apply SetSub.drop)))); refine sn_ ?_; refine sr_ ?_; (refine mv_ ?_); (refine se_ (ex_nilCheck ev_) ?_); (refine se_ (ex_fieldAddr ev_ asm_) ?_); (refine se_ (ex_load1 ev_ asm_ mem_ nth_) ?_); (refine mv_ ?_); (apply so_del; (exact ev_); (intro _ _; (focus (repeat (first | exact Turn.here | apply Turn.there | apply Turn.pre)))); assumption; (exact ev_); (first | exact keyEq .. | exact rfl); assumption; assumption; intro _ _ _); refine sn_ ?_; refine sr_ ?_; (refine mv_ ?_); (refine se_ (ex_nilCheck ev_) ?_); (refine se_ (ex_fieldAddr ev_ asm_) ?_); (refine se_ (ex_load1 ev_ asm_ mem_ nth_) ?_); (refine mv_ ?_); (refine mv_ ?_); (apply so_mapUp; (exact ev_); (intro _ _; (focus (repeat (first | exact Turn.here | apply Turn.there | apply Turn.pre)))); assumption; (exact ev_); (first | exact keyEq .. | exact rfl); (exact ev_); assumption; assumption; intro _ _ _); refine sn_ ?_; (apply sc_seq); refine sr_ ?_; (refine mv_ ?_); (refine se_ (ex_nilCheck ev_) ?_); (refine se_ (ex_fieldAddr ev_ asm_) ?_); (refine se_ (ex_load1 ev_ asm_ mem_ nth_) ?_); (apply so_range; (exact ev_); (exact mem_); assumption; exact rfl; intro _); refine sn_ ?_; (apply sc_block))
      rename_i esl2 hmd hsd ese2 ce2 hmp r
      refine sc_loop (fun k f L => ∃ seen vis ρ', At f 0 (.pointer (some ⟨M.p, 0, none⟩)) ∧ At f 1 (.int .i64 tx) ∧ At f 4 (.pointer (some ⟨nb, 0, none⟩)) ∧ At f 53 (.pointer (some ⟨r, 0, none⟩)) ∧ Iter (Value.int .i64) ei ci seen vis ∧ (∀ x ∈ vis, x ∈ n.ins) ∧ k = (n.ins.filter fun x => decide (x ∉ vis)).length ∧
        (∀ k, (ρ' k).b = (M.ρ k).b ∧ (ρ' k).sv = (M.ρ k).sv ∧ (ρ' k).sb = (M.ρ k).sb) ∧ LInv ρ' (updL l0 (fun x => vis.contains x) (offR n.id (some (g.commits + 1)))) ∧
        Held L ((r, .mapIter (some mi) ci seen ci) :: (M.p, .cells [Value.int .i64 g.most, .int .i64 (g.commits + 1), .map (some M.lm), .map (some M.em)].toArray 66) :: (M.lm, .map esl2 M.cl) :: (M.em, .map ese2 ce2) :: (nb, .cells [Value.int .i64 n.id, .int .i64 n.begin_, .int .i64 2, .int .i64 (g.commits + 1), .bool n.ro, .bool n.dm, .map (some mi), .map (some mo), .int .i64 n.reach, .int .i64 n.least, sv].toArray 72) :: (mi, .map ei ci) :: (mo, .map eo co) :: (sb ++ (NC ρ' (updL l0 (fun x => vis.contains x) (offR n.id (some (g.commits + 1)))) ++ NM ρ' (updL l0 (fun x => vis.contains x) (offR n.id (some (g.commits + 1))))))) R)
        _ ⟨#[], [], M.ρ, at_, at_, at_, at_, Iter.start hMi, by simp, rfl, fun _ => ⟨rfl, rfl, rfl⟩, by rw [updL_out fun _ _ => rfl]; exact hL0, by rw [updL_out fun _ _ => rfl]; exact held_⟩ ?_
      rintro k f L ⟨seen, vis, ρ', a0, a1, a4, a53, hIt, hsub, hk, hb', hL', ⟨G, hG⟩⟩
      refine sc_perm hG ?_
      simp only [List.cons_append, List.append_assoc]
      ((apply sc_seq); (apply sc_region))
      apply so_nxt; (exact ev_); (intro _; (focus (repeat (first | exact Turn.here | apply Turn.there | apply Turn.pre)))); (exact mem_); assumption; assumption; (exact Nat.le_refl _); (exact ci_inj); exact rfl
      · intro hall
        have hvis : ∀ x, x ∈ vis ↔ x ∈ n.ins := fun x => ⟨hsub x, fun hx => hall (x, ptrB (M.ρ x).b) (List.mem_map.2 ⟨x, hx, rfl⟩)⟩
        rw [upd_same hvis] at hL' ⊢
        have hmlv1 : ∀ k, (∃ m ∈ g.live, m.id = k) → k ≠ n.id → ∃ m ∈ updL l0 (fun x => n.ins.contains x) (offR n.id (some (g.commits + 1))), m.id = k ∧ m.state ≠ 2 := fun k h2 h3 => by
          obtain ⟨m, h4, h5, h6⟩ := hmlv k h2 h3
          refine ⟨_, List.mem_map.2 ⟨m, h4, rfl⟩, ?_, ?_⟩
          · split <;> exact h5
          · split <;> exact h6
        generalize hl1 : updL l0 (fun x => n.ins.contains x) (offR n.id (some (g.commits + 1))) = l1 at *
        clear hk hsub hIt hvis hall
        ((refine se_ (ex_extract ev_ nth_) ?_); refine sn_ ?_; (apply sc_seq); (refine cf_ ?_); (apply sc_exit); (apply et_then); (apply et_then); (apply et_hit); (apply nm_then); (apply sc_seq); refine sr_ ?_; (refine mv_ ?_); (refine se_ (ex_nilCheck ev_) ?_); (refine se_ (ex_fieldAddr ev_ asm_) ?_); (refine se_ (ex_load1 ev_ asm_ mem_ nth_) ?_); (apply so_range; (exact ev_); (exact mem_); assumption; exact rfl; intro _); refine sn_ ?_; (apply sc_block))
        rename_i r2
        refine sc_loop (fun k f L => ∃ seen vis ρ', At f 0 (.pointer (some ⟨M.p, 0, none⟩)) ∧ At f 1 (.int .i64 tx) ∧ At f 4 (.pointer (some ⟨nb, 0, none⟩)) ∧ At f 79 (.pointer (some ⟨r2, 0, none⟩)) ∧ Iter (Value.int .i64) eo co seen vis ∧ (∀ x ∈ vis, x ∈ n.outs) ∧ k = (n.outs.filter fun x => decide (x ∉ vis)).length ∧
          (∀ k, (ρ' k).b = (M.ρ k).b ∧ (ρ' k).sv = (M.ρ k).sv ∧ (ρ' k).sb = (M.ρ k).sb) ∧ LInv ρ' (updL l1 (fun x => vis.contains x) (offW n.id (some fq))) ∧
          Held L ((r2, .mapIter (some mo) co seen co) :: (M.p, .cells [Value.int .i64 g.most, .int .i64 (g.commits + 1), .map (some M.lm), .map (some M.em)].toArray 66) :: (M.lm, .map esl2 M.cl) :: (M.em, .map ese2 ce2) :: (nb, .cells [Value.int .i64 n.id, .int .i64 n.begin_, .int .i64 2, .int .i64 (g.commits + 1), .bool n.ro, .bool n.dm, .map (some mi), .map (some mo), .int .i64 n.reach, .int .i64 n.least, sv].toArray 72) :: (mi, .map ei ci) :: (mo, .map eo co) :: (sb ++ (NC ρ' (updL l1 (fun x => vis.contains x) (offW n.id (some fq))) ++ NM ρ' (updL l1 (fun x => vis.contains x) (offW n.id (some fq)))))) R)
          _ ⟨#[], [], ρ', at_, at_, at_, at_, Iter.start hMo, by simp, rfl, hb', by rw [updL_out fun _ _ => rfl]; exact hL', by rw [updL_out fun _ _ => rfl]; exact held_⟩ ?_
        clear hL' hb' hG a0 a1 a4 a53
        rintro k f L ⟨seen, vis, ρ', a0, a1, a4, a79, hIt, hsub, hk, hb', hL', ⟨G, hG⟩⟩
        refine sc_perm hG ?_
        simp only [List.cons_append, List.append_assoc]
        ((apply sc_seq); (apply sc_region))
        apply so_nxt; (exact ev_); (intro _; (focus (repeat (first | exact Turn.here | apply Turn.there | apply Turn.pre)))); (exact mem_); assumption; assumption; (exact Nat.le_refl _); (exact ci_inj); exact rfl
        · intro hall
          have hvis : ∀ x, x ∈ vis ↔ x ∈ n.outs := fun x => ⟨hsub x, fun hx => hall (x, ptrB (M.ρ x).b) (List.mem_map.2 ⟨x, hx, rfl⟩)⟩
          rw [upd_same hvis] at hL' ⊢
          have hb1 : ∀ k, (ρ' k).b = (M.ρ k).b := fun k => (hb' k).1
          obtain ⟨hr1, hr2⟩ := hrho ρ' hb'
          rw [hml ρ' hb1] at hmd
          rw [show putV (mlist M.ρ g.ended) tx (.pointer (some ⟨nb, 0, none⟩)) = mlist ρ' (g.doneG n).ended from hme ρ' hb1] at hmp
          ((refine se_ (ex_extract ev_ nth_) ?_); refine sn_ ?_; (apply sc_seq); (refine cf_ ?_); (apply sc_exit); (apply et_then); (apply et_then); (apply et_hit); (apply nm_then); refine sr_ ?_; (refine mv_ ?_); (refine mv_ ?_); (refine se_ (ex_nilCheck ev_) ?_); (refine se_ (ex_fieldAddr ev_ asm_) ?_); (apply so_store; (exact ev_); (exact Ev.const); assumption; exact rfl; exact rfl; exact rfl; (focus (repeat (first | exact Turn.here | apply Turn.there | apply Turn.pre))); (focus (repeat (first | exact SetSub.nil | apply SetSub.take | apply SetSub.drop)))); (refine se_ (ex_nilCheck ev_) ?_); (refine se_ (ex_fieldAddr ev_ asm_) ?_); (apply so_store; (exact ev_); (exact Ev.const); assumption; exact rfl; exact rfl; exact rfl; (focus (repeat (first | exact Turn.here | apply Turn.there | apply Turn.pre))); (focus (repeat (first | exact SetSub.nil | apply SetSub.take | apply SetSub.drop)))); refine sn_ ?_; (apply sc_region); (refine mv_ ?_))
          have hlf := hfin
          have hlin : LInv ρ' (g.doneG n).nodes := by
            have hnd := hgo.nd
            rw [← hfin]
            have hnd2 : ((g.doneG n).nodes.map (·.id)).Nodup := by unfold Gr.doneG; rw [hfq]; exact hnd
            refine ⟨by rw [hfin]; exact hnd2, fun x hx hs => ?_, fun x hx hs => ?_, fun x hx => ?_⟩
            · rcases List.mem_append.1 hx with h | h
              · exact hL'.mi x h hs
              · rw [List.mem_singleton.1 h] at hs; exact absurd rfl hs
            · rcases List.mem_append.1 hx with h | h
              · exact hL'.mo x h hs
              · rw [List.mem_singleton.1 h] at hs; exact absurd rfl hs
            · rcases List.mem_append.1 hx with h | h
              · exact hL'.bs x h
              · rw [List.mem_singleton.1 h]
                show SlI n.beside (ρ' n.id).sv (ρ' n.id).sb
                rw [(hb' n.id).2.1, (hb' n.id).2.2, hMp]
                exact hBs
          have hgk : GOk (K + 1) (g.doneG n) := by unfold Gr.doneG; rw [hfq]; exact hgo
          have hI3 : Inv (K + 1) (g.doneG n) { M with esl := esl2, ese := ese2, ce := ce2, ρ := ρ' } := ⟨invN_of hgk hlin, hmd, hmp⟩
          have hft := forgetG_tri hI3
          have hNC : NC ρ' (g.doneG n).nodes = NC ρ' (updL l1 (fun x => n.outs.contains x) (offW n.id (some fq))) ++ [cblk ρ' (doneN n (g.commits + 1))] := by rw [← hfin, NC_app]; rfl
          have hNM : NM ρ' (g.doneG n).nodes = NM ρ' (updL l1 (fun x => n.outs.contains x) (offW n.id (some fq))) ++ sb := by
            rw [← hfin, NM_app, NM_cons]
            show _ ++ (nmaps (ρ' n.id) (doneN n (g.commits + 1)) ++ []) = _
            rw [hr2, List.append_nil]
          rw [hr1] at hNC
          have hmc2 : (g.doneG n).most = g.most ∧ (g.doneG n).commits = g.commits + 1 := ⟨rfl, rfl⟩
          simp only [blks, hblk, gBlk, hNC, hNM, hmc2.1, hmc2.2, Nd.cells, doneN, List.cons_append, List.nil_append, List.append_assoc] at hft
          (apply so_call; (exact Ev.func); (focus ((apply EvL.cons; (exact ev_)); exact EvL.nil)); (focus (repeat (first | exact App.nil | apply App.cons))); assumption; (exact hft); (exact sel_); exact rfl)
          rintro v L ⟨rfl, M', rfl, hI4, hp4, _⟩
          simp only [blks, hblk, gBlk, List.cons_append, List.nil_append, List.append_assoc]
          ((apply so_nil))
          (apply ret_ok'; (focus (exact Res.nil)); (exact ⟨rfl, M', rfl, hI4, hp4⟩); (exact sel_); (exact appb_))
        · rintro ⟨k1, v1⟩ seen' hp hnv hIt' hcur
          obtain ⟨hk1, hv1⟩ := klist_mem hp
          simp only at hk1 hv1 hnv hIt' hcur
          subst hv1
          obtain ⟨hkne, hkl⟩ := hI.n.co n hnl k1 hk1
          obtain ⟨m, hm, rfl, hms⟩ := hmlv1 k1 hkl hkne
          have hmv := upd_keep (f := offW n.id (some fq)) hm hnv
          have hmc := nb_cell (ρ := ρ') hmv
          have hmm := nb_ins (ρ := ρ') hmv hms
          have hT : ∀ es c, Turn (NM ρ' (updL l1 (fun x => vis.contains x) (offW n.id (some fq)))) (ρ' m.id).mi (.map (ρ' m.id).ei (ρ' m.id).ci) (.map es c) (NM (setI ρ' m.id es c) (updL l1 (fun x => (m.id :: vis).contains x) (offW n.id (some fq)))) := fun es c => by
            have := turn_insF (ρ := ρ') (es := es) (c := c) (f := offW n.id (some fq)) hmv hL'.nd hms ⟨rfl, rfl⟩
            rwa [upd_snoc (f := offW n.id (some fq)) (fun _ => rfl) (offW_two _ _)] at this
          have hMm := hL'.mi m hmv hms
          have ec : ncell (ρ' m.id) m = m.cells (.map (some (ρ' m.id).mi)) (mvN m (ρ' m.id).mo) (ρ' m.id).sv := by unfold ncell mvN; simp only [if_neg hms]
          have ec2 : ncell (ρ' m.id) (offW n.id (some fq) m) = ({ m with reach := max m.reach fq } : Nd).cells (.map (some (ρ' m.id).mi)) (mvN m (ρ' m.id).mo) (ρ' m.id).sv := by unfold ncell mvN offW; simp only [if_neg hms]; rfl
          have hT2 : ∀ es c, Turn (NC ρ' (updL l1 (fun x => vis.contains x) (offW n.id (some fq)))) (M.ρ m.id).b (.cells (m.cells (.map (some (ρ' m.id).mi)) (mvN m (ρ' m.id).mo) (ρ' m.id).sv).toArray 72) (.cells (({ m with reach := max m.reach fq } : Nd).cells (.map (some (ρ' m.id).mi)) (mvN m (ρ' m.id).mo) (ρ' m.id).sv).toArray 72) (NC (setI ρ' m.id es c) (updL l1 (fun x => (m.id :: vis).contains x) (offW n.id (some fq)))) := fun es c => by
            have := turn_cell (ρ := ρ') (f := offW n.id (some fq)) hmv hL'.nd rfl
            rw [upd_snoc (f := offW n.id (some fq)) (fun _ => rfl) (offW_two _ _), ec, ec2, (hb' m.id).1] at this
            rw [NC_setI]; exact this
          have hLn : ∀ es, MapOf (Value.int .i64) (delV (klist ρ' m.ins) n.id) es (ρ' m.id).ci → LInv (setI ρ' m.id es (ρ' m.id).ci) (updL l1 (fun x => (m.id :: vis).contains x) (offW n.id (some fq))) := fun es hes => by
            rw [← upd_snoc (f := offW n.id (some fq)) (fun _ => rfl) (offW_two _ _)]
            rw [delV_klist] at hes
            exact hL'.inssF hmv (fun _ => rfl) ⟨rfl, rfl, rfl⟩ hes
          rw [ec, (hb' m.id).1] at hmc
          simp only [Nd.cells] at hmc hT2
          have hmax : (if fq > m.reach then fq else m.reach) = max m.reach fq := by split <;> omega
          ((refine se_ (ex_extract ev_ nth_) ?_); refine sn_ ?_; (apply sc_seq); (refine ct_ ?_); (apply sc_skip); (apply nm_then); (apply sc_block); refine sr_ ?_; (refine se_ (ex_ent ev_ mem_ mem_ asm_ asm_) ?_); (refine se_ (ex_extract ev_ nth_) ?_); (refine asg_ ?_); refine sn_ ?_; refine sr_ ?_; (refine mv_ ?_); (refine se_ (ex_nilCheck ev_) ?_); (refine se_ (ex_fieldAddr ev_ asm_) ?_); (refine se_ (ex_load1 ev_ asm_ mem_ nth_) ?_); (refine mv_ ?_); (apply so_del; (exact ev_); (intro es' c'; (repeat (first | exact Turn.left (hT es' c') _ | apply Turn.there | apply Turn.pre))); exact hMm; (exact ev_); exact rfl; assumption; assumption; intro es1 hm1 hs1); refine sn_ ?_; (apply sc_tail (id := 15) 10; assumption; kernel_rfl; rfl; rfl); (refine qe_ (ex_move ev_) ?_); (refine qe_ (ex_move ev_) ?_); (refine qe_ (ex_nilCheck ev_) ?_); (refine qe_ (ex_fieldAddr ev_ asm_) ?_); (refine qe_ (ex_load1 ev_ asm_ mem_ nth_) ?_); (refine qe_ (ex_move ev_) ?_); (apply sq_call; (exact Ev.func); (focus ((apply EvL.cons; (exact ev_)); exact EvL.nil)); (focus (repeat (first | exact App.nil | apply App.cons))); assumption; exact hfar; (exact sel_); exact rfl); (apply sq_ex; (apply ex_max; (exact ev_); (exact ev_); (first | assumption | exact rfl)); exact rfl); (refine qe_ (ex_nilCheck ev_) ?_); (refine qe_ (ex_fieldAddr ev_ asm_) ?_); (apply sq_tail); (apply so_store; (exact ev_); (exact ev_); assumption; exact rfl; exact rfl; exact rfl; (repeat (first | exact Turn.left (hT2 es1 (ρ' m.id).ci) _ | apply Turn.there | apply Turn.pre)); (focus (repeat (first | exact SetSub.nil | apply SetSub.take | apply SetSub.drop)))); (apply so_nil); (apply nm_block); (apply nm_then))
          exact ⟨_, by rw [hk]; exact unseen_lt hk1 hnv, seen', m.id :: vis, setI ρ' m.id es1 (ρ' m.id).ci, at_, at_, at_, at_, hIt', List.forall_mem_cons.2 ⟨hk1, hsub⟩, rfl, fun k => by obtain ⟨q1, _, _, _, _, q2, q3⟩ := setI_b ρ' m.id es1 (ρ' m.id).ci k; rw [q1, q2, q3]; exact hb' k, hLn _ (by rw [hnid]; exact hm1), held_⟩
      · rintro ⟨k1, v1⟩ seen' hp hnv hIt' hcur
        obtain ⟨hk1, hv1⟩ := klist_mem hp
        simp only at hk1 hv1 hnv hIt' hcur
        subst hv1
        obtain ⟨hkne, hkl⟩ := hI.n.ci n hnl k1 hk1
        obtain ⟨m, hm, rfl, hms⟩ := hmlv k1 hkl hkne
        have hmv := upd_keep (f := offR n.id (some (g.commits + 1))) hm hnv
        have hmc := nb_cell (ρ := ρ') hmv
        have hmm := nb_outs (ρ := ρ') hmv hms
        have hT : ∀ es c, Turn (NM ρ' (updL l0 (fun x => vis.contains x) (offR n.id (some (g.commits + 1))))) (ρ' m.id).mo (.map (ρ' m.id).eo (ρ' m.id).co) (.map es c) (NM (setO ρ' m.id es c) (updL l0 (fun x => (m.id :: vis).contains x) (offR n.id (some (g.commits + 1))))) := fun es c => by
          have := turn_outsF (ρ := ρ') (es := es) (c := c) (f := offR n.id (some (g.commits + 1))) hmv hL'.nd hms ⟨rfl, rfl⟩
          rwa [upd_snoc (f := offR n.id (some (g.commits + 1))) (fun _ => rfl) (offR_two _ _)] at this
        have hMm := hL'.mo m hmv hms
        have ec : ncell (ρ' m.id) m = m.cells (mvN m (ρ' m.id).mi) (.map (some (ρ' m.id).mo)) (ρ' m.id).sv := by unfold ncell mvN; simp only [if_neg hms]
        have ec2 : ncell (ρ' m.id) (offR n.id (some (g.commits + 1)) m) = ({ m with least := min m.least (g.commits + 1) } : Nd).cells (mvN m (ρ' m.id).mi) (.map (some (ρ' m.id).mo)) (ρ' m.id).sv := by unfold ncell mvN offR; simp only [if_neg hms]; rfl
        have hT2 : ∀ es c, Turn (NC ρ' (updL l0 (fun x => vis.contains x) (offR n.id (some (g.commits + 1))))) (M.ρ m.id).b (.cells (m.cells (mvN m (ρ' m.id).mi) (.map (some (ρ' m.id).mo)) (ρ' m.id).sv).toArray 72) (.cells (({ m with least := min m.least (g.commits + 1) } : Nd).cells (mvN m (ρ' m.id).mi) (.map (some (ρ' m.id).mo)) (ρ' m.id).sv).toArray 72) (NC (setO ρ' m.id es c) (updL l0 (fun x => (m.id :: vis).contains x) (offR n.id (some (g.commits + 1))))) := fun es c => by
          have := turn_cell (ρ := ρ') (f := offR n.id (some (g.commits + 1))) hmv hL'.nd rfl
          rw [upd_snoc (f := offR n.id (some (g.commits + 1))) (fun _ => rfl) (offR_two _ _), ec, ec2, (hb' m.id).1] at this
          rw [NC_setO]; exact this
        have hLn : ∀ es, MapOf (Value.int .i64) (delV (klist ρ' m.outs) n.id) es (ρ' m.id).co → LInv (setO ρ' m.id es (ρ' m.id).co) (updL l0 (fun x => (m.id :: vis).contains x) (offR n.id (some (g.commits + 1)))) := fun es hes => by
          rw [← upd_snoc (f := offR n.id (some (g.commits + 1))) (fun _ => rfl) (offR_two _ _)]
          rw [delV_klist] at hes
          exact hL'.outsF hmv (fun _ => rfl) ⟨rfl, rfl, rfl⟩ hes
        rw [ec, (hb' m.id).1] at hmc
        simp only [Nd.cells] at hmc hT2
        have hmin : (if g.commits + 1 < m.least then g.commits + 1 else m.least) = min m.least (g.commits + 1) := by split <;> omega
        ((refine se_ (ex_extract ev_ nth_) ?_); refine sn_ ?_; (apply sc_seq); (refine ct_ ?_); (apply sc_skip); (apply nm_then); (apply sc_block); refine sr_ ?_; (refine se_ (ex_ent ev_ mem_ mem_ asm_ asm_) ?_); (refine se_ (ex_extract ev_ nth_) ?_); (refine asg_ ?_); refine sn_ ?_; refine sr_ ?_; (refine mv_ ?_); (refine se_ (ex_nilCheck ev_) ?_); (refine se_ (ex_fieldAddr ev_ asm_) ?_); (refine se_ (ex_load1 ev_ asm_ mem_ nth_) ?_); (refine mv_ ?_); (apply so_del; (exact ev_); (intro es' c'; (repeat (first | exact Turn.left (hT es' c') _ | apply Turn.there | apply Turn.pre))); exact hMm; (exact ev_); exact rfl; assumption; assumption; intro es1 hm1 hs1); refine sn_ ?_; (apply sc_tail (id := 10) 12; assumption; kernel_rfl; rfl; rfl); (refine qe_ (ex_move ev_) ?_); (refine qe_ (ex_move ev_) ?_); (refine qe_ (ex_nilCheck ev_) ?_); (refine qe_ (ex_fieldAddr ev_ asm_) ?_); (refine qe_ (ex_load1 ev_ asm_ mem_ nth_) ?_); (refine qe_ (ex_move ev_) ?_); (refine qe_ (ex_nilCheck ev_) ?_); (refine qe_ (ex_fieldAddr ev_ asm_) ?_); (refine qe_ (ex_load1 ev_ asm_ mem_ nth_) ?_); (apply sq_ex; (apply ex_min; (exact ev_); (exact ev_); (first | assumption | exact rfl)); exact rfl); (refine qe_ (ex_nilCheck ev_) ?_); (refine qe_ (ex_fieldAddr ev_ asm_) ?_); (apply sq_tail); (apply so_store; (exact ev_); (exact ev_); assumption; exact rfl; exact rfl; exact rfl; (repeat (first | exact Turn.left (hT2 es1 (ρ' m.id).co) _ | apply Turn.there | apply Turn.pre)); (focus (repeat (first | exact SetSub.nil | apply SetSub.take | apply SetSub.drop)))); (apply so_nil); (apply nm_block); (apply nm_then))
        exact ⟨_, by rw [hk]; exact unseen_lt hk1 hnv, seen', m.id :: vis, setO ρ' m.id es1 (ρ' m.id).co, at_, at_, at_, at_, hIt', List.forall_mem_cons.2 ⟨hk1, hsub⟩, rfl, fun k => by obtain ⟨q1, _, _, _, _, q2, q3⟩ := setO_b ρ' m.id es1 (ρ' m.id).co k; rw [q1, q2, q3]; exact hb' k, hLn _ (by rw [hnid]; exact hm1), held_⟩
end Go.Proofs.Ytomgkmoecbnddaa
