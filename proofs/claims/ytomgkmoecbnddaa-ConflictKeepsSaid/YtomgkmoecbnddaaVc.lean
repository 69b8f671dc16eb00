/- Conflict: the reference: Check. -/
import Derived.Test.YtomgkmoecbnddaaVb
set_option linter.unusedVariables false
set_option linter.unusedSimpArgs false
set_option linter.unnecessarySimpa false
namespace Go.Proofs.Ytomgkmoecbnddaa
open Go.Sym
set_option maxHeartbeats 8000000 in
theorem checkR2_tri {K : Nat} {g : RG} {p : Nat} {Lb : List Blk} (hR : RRep K g p Lb) (hok : ROk g) (tx : Int) :
    Tri Try.prog 41 #[.pointer (some ⟨p, 0, none⟩), .int .i64 tx] Lb fun v L' => v = .int .i64 (g.checkQ tx).1 ∧ RRep K (g.checkQ tx).2 p L' := by
  have f_mixed := mixed; have f_by3 := by3; have f_by85 := by85; have f_en44 := en44; have f_en55 := en55; have f_fo59_0 := fo59_0; have f_fo85_2 := fo85_2; have f_fo85_5 := fo85_5; have f_pl92_1 := pl92_1; have f_st92 := st92; have f_ty25 := ty25; have f_ty3 := ty3; have f_ty4 := ty4; have f_ty56 := ty56; have f_ty85 := ty85; have f_un_25 : Und Try.prog 25 _ := ⟨Try.underlying25⟩; have f_un_56 : Und Try.prog 56 _ := ⟨Try.underlying56⟩; have f_zero3 := zero3; have f_zero85 := zero85; have f_zero92 := zero92; have f_zv3 := zv3; have f_zv85 := zv85
  obtain ⟨ol, cl, oe, ce, sv, BL, BE, BB, rfl, h⟩ := hR
  have hk := h.k
  have hsl := h.sl
  have hse := h.se
  have hat := at_tri (p := p) (cl := cl) (ve := .slice oe g.E.length ce) (n := g.n) (row_tx h.l (BE ++ BB)) (show g.L.length ≤ 1000000 by omega) tx
  refine tri_intro (args := [_, _]) Try.func41 rfl Try.ntmps41 rfl (rs := _) rfl rfl fun E R => ?_
  simp only [fr, hdr, List.cons_append, List.append_assoc] at hat ⊢
  unfold RG.checkQ
  cases hf : findR g.L tx with
  | none =>
    rw [atV_none hf] at hat
    (refine sr_ ?_; (refine ac_ ?_); refine sn_ ?_; refine sr_ ?_; (refine mv_ ?_); (refine mv_ ?_); (apply so_callq; (exact Ev.func); (focus ((apply EvL.cons; (exact ev_)); (apply EvL.cons; (exact ev_)); exact EvL.nil)); (focus (repeat (first | exact App.nil | apply App.cons))); assumption; exact hat; (exact sel_); exact rfl); (refine asg_ ?_); refine sn_ ?_; (apply sc_seq); refine sr_ ?_; (refine mv_ ?_); (refine se_ (ex_lss_t ev_ .const om_) ?_); (refine mv_ ?_); (refine sk_ ?_); (refine sk_ ?_); (refine sk_ ?_); (refine sk_ ?_); (refine sk_ ?_); (refine sk_ ?_); (refine sk_ ?_); (refine sk_ ?_); (refine sk_ ?_); (refine se_ (ex_pick_t ev_ .const) ?_); refine sn_ ?_; (refine ct_ ?_); refine sr_ ?_; (refine ac_ ?_); refine sn_ ?_; (apply sc_ret); (apply rt_then); (apply ret_ok; (focus ((apply Res.tmp; (exact ev_)); exact Res.nil)); (exact ⟨rfl, ol, cl, oe, ce, sv, BL, BE, BB, rfl, h⟩); (exact sel_); (exact appb_)))
  | some x =>
    obtain ⟨ix, hix, hx, hv⟩ := atV_some hf
    rw [hv] at hat
    obtain ⟨b, junk, ho, rfl, hl, hj⟩ := row_open h.l (by omega)
    subst ho
    simp only [List.cons_append, List.nil_append] at hat ⊢
    obtain ⟨_, _, x2, _, _, x5⟩ := t_cells (sv := sv) junk hix hx
    have hid := (findR_some hf).2
    by_cases hs : x.st = 1
    · rw [if_neg (fun e => e hs)]
      cases hdm : x.dm with
      | true =>
        rw [hdm] at x5
        rw [if_pos rfl]
        (refine sr_ ?_; (refine ac_ ?_); refine sn_ ?_; refine sr_ ?_; (refine mv_ ?_); (refine mv_ ?_); (apply so_callq; (exact Ev.func); (focus ((apply EvL.cons; (exact ev_)); (apply EvL.cons; (exact ev_)); exact EvL.nil)); (focus (repeat (first | exact App.nil | apply App.cons))); assumption; exact hat; (exact sel_); exact rfl); (refine asg_ ?_); refine sn_ ?_; (apply sc_seq); refine sr_ ?_; (refine mv_ ?_); (refine se_ (ex_lss_f ev_ .const om_) ?_); (refine mv_ ?_); (refine wt_ ?_); (refine mv_ ?_); (refine wt_ ?_); (refine se_ (ex_nilCheck ev_) ?_); (refine wt_ ?_); (refine se_ (ex_fieldAddr ev_ asm_) ?_); (refine wt_ ?_); (refine se_ (ex_load1 ev_ asm_ mem_ nth_) ?_); (refine wt_ ?_); (refine mv_ ?_); (refine wt_ ?_); (refine se_ (ex_indexAddr ev_ ev_ asm_ asm_ lit_ lt_) ?_); (refine wt_ ?_); (refine se_ (ex_fieldAddr ev_ asm_) ?_); (refine wt_ ?_); (apply so_ex; (apply ex_load1r; (exact ev_); assumption; (exact mem_); (first | exact x2 | exact x5)); exact rfl); (refine wt_ ?_); (refine se_ (ex_neq_f ev_ .const om_) ?_); (refine se_ (ex_pick_f ev_ ev_) ?_); refine sn_ ?_; (refine cf_ ?_); (apply sc_skip); (apply nm_then); (apply sc_seq); refine sr_ ?_; (refine mv_ ?_); (refine se_ (ex_nilCheck ev_) ?_); (refine se_ (ex_fieldAddr ev_ asm_) ?_); (refine se_ (ex_load1 ev_ asm_ mem_ nth_) ?_); (refine mv_ ?_); (refine se_ (ex_indexAddr ev_ ev_ asm_ asm_ lit_ lt_) ?_); (refine se_ (ex_fieldAddr ev_ asm_) ?_); (apply so_ex; (apply ex_load1r; (exact ev_); assumption; (exact mem_); (first | exact x2 | exact x5)); exact rfl); refine sn_ ?_; (refine ct_ ?_); refine sr_ ?_; (refine ac_ ?_); refine sn_ ?_; (apply sc_ret); (apply rt_then); (apply ret_ok; (focus ((apply Res.tmp; (exact ev_)); exact Res.nil)); (exact ⟨rfl, _, cl, oe, ce, sv, _, BE, BB, rfl, h⟩); (exact sel_); (exact appb_)))
      | false =>
        rw [hdm] at x5
        rw [if_neg Bool.false_ne_true]
        have hvt := victims_tri (p := p) (cl := cl) (ce := ce) (n := g.n) (row_tx h.l (BE ++ BB)) (row_ed h.e [(b, Obj.cells (tcells sv g.L ++ junk).toArray 85)] BB) (fun e he => (hok.ed e he).2) (by omega) (by omega) 0 tx true
        simp only [hdr, List.cons_append, List.nil_append] at hvt
        have hvin : ∀ k ∈ vics g.L g.E (0, tx) true, ∃ z ∈ g.L, z.id = k := fun k hk => vics_in hk
        have hvl2 : (vics g.L g.E (0, tx) true).length ≤ 1000000 := Nat.le_trans (vics_len g.L g.E (0, tx) true) (Nat.le_trans (Nat.mul_le_mul hse hse) (Nat.le_trans (Nat.mul_le_mul hk hk) (by decide)))
        generalize hvs : vics g.L g.E (0, tx) true = vs at *
        (refine sr_ ?_; (refine ac_ ?_); refine sn_ ?_; refine sr_ ?_; (refine mv_ ?_); (refine mv_ ?_); (apply so_callq; (exact Ev.func); (focus ((apply EvL.cons; (exact ev_)); (apply EvL.cons; (exact ev_)); exact EvL.nil)); (focus (repeat (first | exact App.nil | apply App.cons))); assumption; exact hat; (exact sel_); exact rfl); (refine asg_ ?_); refine sn_ ?_; (apply sc_seq); refine sr_ ?_; (refine mv_ ?_); (refine se_ (ex_lss_f ev_ .const om_) ?_); (refine mv_ ?_); (refine wt_ ?_); (refine mv_ ?_); (refine wt_ ?_); (refine se_ (ex_nilCheck ev_) ?_); (refine wt_ ?_); (refine se_ (ex_fieldAddr ev_ asm_) ?_); (refine wt_ ?_); (refine se_ (ex_load1 ev_ asm_ mem_ nth_) ?_); (refine wt_ ?_); (refine mv_ ?_); (refine wt_ ?_); (refine se_ (ex_indexAddr ev_ ev_ asm_ asm_ lit_ lt_) ?_); (refine wt_ ?_); (refine se_ (ex_fieldAddr ev_ asm_) ?_); (refine wt_ ?_); (apply so_ex; (apply ex_load1r; (exact ev_); assumption; (exact mem_); (first | exact x2 | exact x5)); exact rfl); (refine wt_ ?_); (refine se_ (ex_neq_f ev_ .const om_) ?_); (refine se_ (ex_pick_f ev_ ev_) ?_); refine sn_ ?_; (refine cf_ ?_); (apply sc_skip); (apply nm_then); (apply sc_seq); refine sr_ ?_; (refine mv_ ?_); (refine se_ (ex_nilCheck ev_) ?_); (refine se_ (ex_fieldAddr ev_ asm_) ?_); (refine se_ (ex_load1 ev_ asm_ mem_ nth_) ?_); (refine mv_ ?_); (refine se_ (ex_indexAddr ev_ ev_ asm_ asm_ lit_ lt_) ?_); (refine se_ (ex_fieldAddr ev_ asm_) ?_); (apply so_ex; (apply ex_load1r; (exact ev_); assumption; (exact mem_); (first | exact x2 | exact x5)); exact rfl); refine sn_ ?_; (refine cf_ ?_); (apply sc_skip); (apply nm_then); refine sr_ ?_; (refine mv_ ?_); (refine mv_ ?_); (apply so_ex; (apply ex_build; ((focus ((apply EvP.cons; (exact ev_)); exact EvP.nil))); assumption; ((focus (repeat (first | exact Bld.nil (by assumption) | (apply Bld.cons; assumption; exact rfl; exact rfl; (focus (repeat (first | exact SetSub.nil | apply SetSub.take | apply SetSub.drop))))))))); exact rfl))
        (apply so_call; (exact Ev.func); (focus ((apply EvL.cons; (exact ev_)); (apply EvL.cons; (exact ev_)); (apply EvL.cons; (exact Ev.const)); exact EvL.nil)); (focus (repeat (first | exact App.nil | apply App.cons))); assumption; (exact hvt); (exact sel_); exact rfl)
        rintro v L1 ⟨ov, cv, Bv, rfl, hBv, rfl⟩
        simp only [List.cons_append, List.append_assoc]
        ((refine asg_ ?_); refine sn_ ?_; (apply sc_seq); refine sr_ ?_; (refine ac_ ?_); refine sn_ ?_; (apply sc_block))
        refine sc_loop (fun q f L' => ∃ i : Nat, i ≤ vs.length ∧ q = vs.length - i ∧ (∀ k (h : k < vs.length), k < i → vs[k] ≠ tx) ∧ At f 0 (.pointer (some ⟨p, 0, none⟩)) ∧ At f 1 (.int .i64 tx) ∧ At f 5 (.int .i64 (ix : Int)) ∧ At f 6 (.slice ov vs.length cv) ∧ At f 7 (.int .i64 (i : Int)) ∧ Held L' ((p, Obj.cells [Value.slice (some ⟨b, 0, none⟩) g.L.length cl, .slice oe g.E.length ce, .int .i64 g.n].toArray 59) :: (b, Obj.cells (tcells sv g.L ++ junk).toArray 85) :: (Bv ++ (BE ++ BB))) R) _
          ⟨0, by omega, rfl, fun k h hk => absurd hk (by omega), at_, at_, at_, at_, at_, held_⟩ ?_
        rintro q f L' ⟨i, hi, hq, hno, a0, a1, a5, a6, a7, ⟨G, hG⟩⟩
        refine sc_perm hG ?_
        simp only [List.cons_append, List.append_assoc]
        by_cases hlt : i < vs.length
        · have hlt' : (i : Int) < (vs.length : Int) := by omega
          obtain ⟨bv, junkv, hov, rfl, hv1, hv2⟩ := row_open hBv (by omega)
          subst hov
          simp only [List.cons_append, List.nil_append]
          have hnth : (vs.map (Value.int .i64) ++ junkv)[0 + i * 1]? = some (.int .i64 vs[i]) := by
            rw [Nat.zero_add, Nat.mul_one, List.getElem?_append_left (by simpa using hlt)]; simp [hlt]
          by_cases heq : vs[i] = tx
          · have hmem : tx ∈ vs := heq ▸ List.getElem_mem hlt
            rw [if_pos hmem]
            obtain ⟨ik, hik, hvk, hst1, hst2⟩ := mark_step (sv := sv) (vs := [tx]) (i := 0) junk hok.nd (by simp) ⟨x, (findR_some hf).1, hid⟩
            simp only [List.take_zero, rDm_nil] at hvk hst1 hst2
            have hik2 : ik = ix := by have := hvk.symm.trans hv; omega
            subst hik2
            have hst1 : tcells sv (g.L.map (rDm [tx])) ++ junk = _ := hst1
            have hfin := h.map rfl hl hj (rDm [tx]) (fun x => ⟨rDm_id _ x, rDm_bs _ x⟩) (Nat.le_refl K) hk h.n
            have hlm : (g.L.map (rDm [tx])).length = g.L.length := List.length_map ..
            ((apply sc_seq); refine sr_ ?_; (refine mv_ ?_); (refine mv_ ?_); (refine se_ (ex_len_slice ev_ asm_) ?_); (refine se_ (ex_lss_t ev_ ev_ om_) ?_); refine sn_ ?_; (refine ct_ ?_); (apply sc_skip); (apply nm_then); (apply sc_seq); (apply sc_block); refine sr_ ?_; (refine mv_ ?_); (refine mv_ ?_); (refine se_ (ex_indexAddr ev_ ev_ asm_ asm_ lit_ lt_) ?_); (apply so_ex; (apply ex_load1r; (exact ev_); assumption; (exact mem_); (first | exact hnth | exact x2 | exact x5)); exact rfl); (refine mv_ ?_); (refine se_ (ex_eql_t ev_ ev_ om_) ?_); refine sn_ ?_; (refine ct_ ?_); refine sr_ ?_; (refine mv_ ?_); (refine se_ (ex_nilCheck ev_) ?_); (refine se_ (ex_fieldAddr ev_ asm_) ?_); (refine se_ (ex_load1 ev_ asm_ mem_ nth_) ?_); (refine mv_ ?_); (refine se_ (ex_indexAddr ev_ ev_ asm_ asm_ lit_ lt_) ?_); (refine se_ (ex_fieldAddr ev_ asm_) ?_); (apply so_storer (r := [Value.bool true]); (exact ev_); (exact Ev.const); assumption; exact rfl; exact rfl; exact rfl; (focus (repeat (first | exact Turn.here | apply Turn.there | apply Turn.pre))); exact hst1; exact hst2); refine sn_ ?_; refine sr_ ?_; (refine ac_ ?_); refine sn_ ?_; (apply sc_ret); (apply rt_block); (apply rt_then); (apply rt_then); (apply rt_block); (apply rt_then))
            rw [← hlm]
            (apply ret_ok; (focus ((apply Res.tmp; (exact ev_)); exact Res.nil)); (exact ⟨rfl, _, cl, oe, ce, sv, _, BE, BB, rfl, hfin⟩); (exact sel_); (exact appb_))
          · ((apply sc_seq); refine sr_ ?_; (refine mv_ ?_); (refine mv_ ?_); (refine se_ (ex_len_slice ev_ asm_) ?_); (refine se_ (ex_lss_t ev_ ev_ om_) ?_); refine sn_ ?_; (refine ct_ ?_); (apply sc_skip); (apply nm_then); (apply sc_seq); (apply sc_block); refine sr_ ?_; (refine mv_ ?_); (refine mv_ ?_); (refine se_ (ex_indexAddr ev_ ev_ asm_ asm_ lit_ lt_) ?_); (apply so_ex; (apply ex_load1r; (exact ev_); assumption; (exact mem_); (first | exact hnth | exact x2 | exact x5)); exact rfl); (refine mv_ ?_); (refine se_ (ex_eql_f ev_ ev_ om_) ?_); refine sn_ ?_; (refine cf_ ?_); (apply sc_skip); (apply nm_block); (apply nm_then); (apply sc_region); (refine mv_ ?_); (refine se_ (ex_add ev_ .const wr_) ?_); (refine asg_ ?_); (apply so_nil); (apply nm_then))
            refine ⟨_, by rw [hq]; omega, i + 1, by omega, rfl, fun k h hk => ?_, at_, at_, at_, at_, at_, held_⟩
            by_cases e : k = i
            · subst e; exact heq
            · exact hno k h (by omega)
        · have hlt' : ¬ (i : Int) < (vs.length : Int) := by omega
          obtain rfl : i = vs.length := by omega
          have hmem : ¬ tx ∈ vs := fun hm => by
            obtain ⟨k, hk, e⟩ := List.getElem_of_mem hm
            exact hno k hk hk e
          rw [if_neg hmem]
          ((apply sc_seq); refine sr_ ?_; (refine mv_ ?_); (refine mv_ ?_); (refine se_ (ex_len_slice ev_ asm_) ?_); (refine se_ (ex_lss_f ev_ ev_ om_) ?_); refine sn_ ?_; (refine cf_ ?_); (apply sc_exit); (apply et_then); (apply et_then); (apply et_hit); (apply nm_then); (apply sc_seq); refine sr_ ?_; (refine ac_ ?_); refine sn_ ?_; (apply sc_block))
          refine sc_loop (fun q f L' => ∃ i : Nat, i ≤ vs.length ∧ q = vs.length - i ∧ At f 0 (.pointer (some ⟨p, 0, none⟩)) ∧ At f 1 (.int .i64 tx) ∧ At f 5 (.int .i64 (ix : Int)) ∧ At f 6 (.slice ov vs.length cv) ∧ At f 8 (.int .i64 (i : Int)) ∧ Held L' ((p, Obj.cells [Value.slice (some ⟨b, 0, none⟩) g.L.length cl, .slice oe g.E.length ce, .int .i64 g.n].toArray 59) :: (b, Obj.cells (tcells sv (g.L.map (rDm (vs.take i))) ++ junk).toArray 85) :: (Bv ++ (BE ++ BB))) R) _
            ⟨0, by omega, rfl, at_, at_, at_, at_, at_, by rw [List.take_zero, rDm_nil]; exact held_⟩ ?_
          clear a0 a1 a5 a6 a7 hG
          rintro q2 f L' ⟨i, hi, hq2, a0, a1, a5, a6, a8, ⟨G, hG⟩⟩
          refine sc_perm hG ?_
          simp only [List.cons_append, List.append_assoc]
          by_cases hlt : i < vs.length
          · have hlt' : (i : Int) < (vs.length : Int) := by omega
            obtain ⟨bv, junkv, hov, rfl, hv1, hv2⟩ := row_open hBv (by omega)
            subst hov
            simp only [List.cons_append, List.nil_append]
            have hnth : (vs.map (Value.int .i64) ++ junkv)[0 + i * 1]? = some (.int .i64 vs[i]) := by
              rw [Nat.zero_add, Nat.mul_one, List.getElem?_append_left (by simpa using hlt)]; simp [hlt]
            obtain ⟨ik, hik, hvk, hst1, hst2⟩ := mark_step (sv := sv) junk hok.nd hlt (hvin _ (List.getElem_mem hlt))
            have hatk := at_tri (p := p) (cl := cl) (ve := .slice oe g.E.length ce) (n := g.n) (l := g.L.map (rDm (vs.take i))) (sv := sv) (ol := some ⟨b, 0, none⟩) (P0 := [(b, Obj.cells (tcells sv (g.L.map (rDm (vs.take i))) ++ junk).toArray 85)]) (fun _ => ⟨b, junk, rfl, List.mem_cons_self ..⟩) (by rw [List.length_map]; omega) vs[i]
            rw [hvk, List.length_map] at hatk
            simp only [hdr] at hatk
            generalize hkk : vs[i] = kk at *
            ((apply sc_seq); refine sr_ ?_; (refine mv_ ?_); (refine mv_ ?_); (refine se_ (ex_len_slice ev_ asm_) ?_); (refine se_ (ex_lss_t ev_ ev_ om_) ?_); refine sn_ ?_; (refine ct_ ?_); (apply sc_skip); (apply nm_then); (apply sc_seq); (apply sc_block); (apply sc_any (id := 16) (vol := [(b, Obj.cells (tcells sv (g.L.map (rDm (vs.take i))) ++ junk).toArray 85)]); assumption; (exact sel_); exact rfl; exact rfl; (apply sa_take (i := 0); kernel_rfl; exact rfl; kernel_rfl; kernel_rfl; exact rfl; exact rfl; (exact sel_); (apply qo_ex; (apply ex_move; (exact ev_))); apply sa_take (i := 1); kernel_rfl; exact rfl; kernel_rfl; kernel_rfl; exact rfl; exact rfl; (exact sel_); (apply qo_ex; (apply ex_nilCheck; (exact ev_))); apply sa_take (i := 2); kernel_rfl; exact rfl; kernel_rfl; kernel_rfl; exact rfl; exact rfl; (exact sel_); (apply qo_ex; (apply ex_fieldAddr; (exact ev_); assumption)); apply sa_take (i := 3); kernel_rfl; exact rfl; kernel_rfl; kernel_rfl; exact rfl; exact rfl; (exact sel_); (apply qo_ex; (apply ex_load1; (exact ev_); assumption; (exact mem_); (exact nth_))); apply sa_take (i := 4); kernel_rfl; exact rfl; kernel_rfl; kernel_rfl; exact rfl; exact rfl; (exact sel_); (apply qo_ex; (apply ex_move; (exact ev_))); apply sa_take (i := 5); kernel_rfl; exact rfl; kernel_rfl; kernel_rfl; exact rfl; exact rfl; (exact sel_); (apply qo_ex; (apply ex_move; (exact ev_))); apply sa_take (i := 6); kernel_rfl; exact rfl; kernel_rfl; kernel_rfl; exact rfl; exact rfl; (exact sel_); (apply qo_ex; (apply ex_move; (exact ev_))); apply sa_take (i := 7); kernel_rfl; exact rfl; kernel_rfl; kernel_rfl; exact rfl; exact rfl; (exact sel_); (apply qo_ex; (apply ex_indexAddr; (exact ev_); (exact ev_); assumption; assumption; (first | exact rfl | exact (rfl : (0:Int) = ((0:Nat):Int)) | exact (rfl : (1:Int) = ((1:Nat):Int)) | exact (rfl : (2:Int) = ((2:Nat):Int)) | assumption); (first | assumption | omega | decide))); apply sa_take (i := 8); kernel_rfl; exact rfl; kernel_rfl; kernel_rfl; exact rfl; exact rfl; (exact sel_); (apply qo_ex; apply ex_load1r; (exact ev_); assumption; (exact mem_); exact hnth); apply sa_one (i := 9); exact rfl; kernel_rfl; exact rfl; (((apply so_callq; (exact Ev.func); (focus ((apply EvL.cons; (exact ev_)); (apply EvL.cons; (exact ev_)); exact EvL.nil)); (focus (repeat (first | exact App.nil | apply App.cons))); assumption; exact hatk; (exact sel_); exact rfl))); apply sa_next; (exact sel_); apply sa_take (i := 10); kernel_rfl; exact rfl; kernel_rfl; kernel_rfl; exact rfl; exact rfl; (exact sel_); (apply qo_ex; (apply ex_indexAddr; (exact ev_); (exact ev_); assumption; assumption; (first | exact rfl | exact (rfl : (0:Int) = ((0:Nat):Int)) | exact (rfl : (1:Int) = ((1:Nat):Int)) | exact (rfl : (2:Int) = ((2:Nat):Int)) | assumption); (first | assumption | omega | decide))); apply sa_take (i := 11); kernel_rfl; exact rfl; kernel_rfl; kernel_rfl; exact rfl; exact rfl; (exact sel_); (apply qo_ex; (apply ex_fieldAddr; (exact ev_); assumption)); apply sa_one (i := 12); exact rfl; kernel_rfl; exact rfl; (((apply so_storer (r := [Value.bool true]); (exact ev_); (exact Ev.const); assumption; exact rfl; exact rfl; exact rfl; (focus (repeat (first | exact Turn.here | apply Turn.there | apply Turn.pre))); exact hst1; exact hst2))); apply sa_next; (exact sel_); (apply sa_done; kernel_rfl))); (apply nm_block); (apply nm_then); (apply sc_region); (refine mv_ ?_); (refine se_ (ex_add ev_ .const wr_) ?_); (refine asg_ ?_); (apply so_nil); (apply nm_then))
            exact ⟨_, by rw [hq2]; omega, i + 1, by omega, rfl, at_, at_, at_, at_, at_, held_⟩
          · have hlt' : ¬ (i : Int) < (vs.length : Int) := by omega
            obtain rfl : i = vs.length := by omega
            simp only [List.take_length]
            have hlm0 : (g.L.map (rDm vs)).length = g.L.length := List.length_map ..
            have hix' : ix < (g.L.map (rDm vs)).length := by rw [hlm0]; exact hix
            have hel : (g.L.map (rDm vs))[ix] = rDm vs x := by rw [List.getElem_map, hx]
            have hids : ((g.L.map (rDm vs)).map (·.id)).Nodup := by
              rw [List.map_map, show ((fun x : RT => x.id) ∘ rDm vs) = fun x => x.id from funext fun x => rDm_id _ x]; exact hok.nd
            have hid2 : (rDm vs x).id = tx := (rDm_id vs x).trans hid
            obtain ⟨hst1, hst2⟩ := t_store (sv := sv) junk hix' (setSt tx 2 (g.L.map (rDm vs))[ix]) 2 [Value.int .i64 2] (by decide) (by rw [hel]; unfold setSt; rw [if_pos hid2]; rfl)
            rw [set_map hids hix' (F := setSt tx 2) (fun y hy => by unfold setSt; rw [if_neg (fun e => hy (e.trans (by rw [hel, hid2])))])] at hst1
            have hfin := h.map rfl hl hj (setSt tx 2 ∘ rDm vs) (fun x => by
              have h1 := rDm_id vs x
              have h2 := rDm_bs vs x
              simp only [Function.comp]
              unfold setSt
              split
              · exact ⟨h1, h2⟩
              · exact ⟨h1, h2⟩) (Nat.le_refl K) hk h.n
            rw [← List.map_map] at hfin
            have hlm : ((g.L.map (rDm vs)).map (setSt tx 2)).length = g.L.length := by rw [List.length_map, hlm0]
            ((apply sc_seq); refine sr_ ?_; (refine mv_ ?_); (refine mv_ ?_); (refine se_ (ex_len_slice ev_ asm_) ?_); (refine se_ (ex_lss_f ev_ ev_ om_) ?_); refine sn_ ?_; (refine cf_ ?_); (apply sc_exit); (apply et_then); (apply et_then); (apply et_hit); (apply nm_then); refine sr_ ?_; (refine mv_ ?_); (refine se_ (ex_nilCheck ev_) ?_); (refine se_ (ex_fieldAddr ev_ asm_) ?_); (refine se_ (ex_load1 ev_ asm_ mem_ nth_) ?_); (refine mv_ ?_); (refine se_ (ex_indexAddr ev_ ev_ asm_ asm_ lit_ lt_) ?_); (refine se_ (ex_fieldAddr ev_ asm_) ?_); (apply so_storer (r := [Value.int .i64 2]); (exact ev_); (exact Ev.const); assumption; exact rfl; exact rfl; exact rfl; (focus (repeat (first | exact Turn.here | apply Turn.there | apply Turn.pre))); exact hst1; exact hst2); refine sn_ ?_; refine sr_ ?_; (refine ac_ ?_); refine sn_ ?_; (apply sc_ret))
            rw [← hlm]
            (apply ret_ok; (focus ((apply Res.tmp; (exact ev_)); exact Res.nil)); (exact ⟨rfl, _, cl, oe, ce, sv, _, BE, BB, rfl, hfin⟩); (exact sel_); (exact appb_))
    · rw [if_pos hs]
      (refine sr_ ?_; (refine ac_ ?_); refine sn_ ?_; refine sr_ ?_; (refine mv_ ?_); (refine mv_ ?_); (apply so_callq; (exact Ev.func); (focus ((apply EvL.cons; (exact ev_)); (apply EvL.cons; (exact ev_)); exact EvL.nil)); (focus (repeat (first | exact App.nil | apply App.cons))); assumption; exact hat; (exact sel_); exact rfl); (refine asg_ ?_); refine sn_ ?_; (apply sc_seq); refine sr_ ?_; (refine mv_ ?_); (refine se_ (ex_lss_f ev_ .const om_) ?_); (refine mv_ ?_); (refine wt_ ?_); (refine mv_ ?_); (refine wt_ ?_); (refine se_ (ex_nilCheck ev_) ?_); (refine wt_ ?_); (refine se_ (ex_fieldAddr ev_ asm_) ?_); (refine wt_ ?_); (refine se_ (ex_load1 ev_ asm_ mem_ nth_) ?_); (refine wt_ ?_); (refine mv_ ?_); (refine wt_ ?_); (refine se_ (ex_indexAddr ev_ ev_ asm_ asm_ lit_ lt_) ?_); (refine wt_ ?_); (refine se_ (ex_fieldAddr ev_ asm_) ?_); (refine wt_ ?_); (apply so_ex; (apply ex_load1r; (exact ev_); assumption; (exact mem_); (first | exact x2 | exact x5)); exact rfl); (refine wt_ ?_); (refine se_ (ex_neq_t ev_ .const om_) ?_); (refine se_ (ex_pick_f ev_ ev_) ?_); refine sn_ ?_; (refine ct_ ?_); refine sr_ ?_; (refine ac_ ?_); refine sn_ ?_; (apply sc_ret); (apply rt_then); (apply ret_ok; (focus ((apply Res.tmp; (exact ev_)); exact Res.nil)); (exact ⟨rfl, _, cl, oe, ce, sv, _, BE, BB, rfl, h⟩); (exact sel_); (exact appb_)))
end Go.Proofs.Ytomgkmoecbnddaa
