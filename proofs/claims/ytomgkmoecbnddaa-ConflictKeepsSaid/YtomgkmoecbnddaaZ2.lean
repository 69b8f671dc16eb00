/- Conflict: ConflictKeeps: the walk. -/
import Derived.Test.YtomgkmoecbnddaaZ1
set_option linter.unusedVariables false
set_option linter.unusedSimpArgs false
set_option linter.unnecessarySimpa false
namespace Go.Proofs.Ytomgkmoecbnddaa
open Go.Sym
theorem count_le {g : Gr} {r : RG} (h : Cp g r) (hm : 0 ≤ g.most) : (r.active : Int) ≤ g.countQ ∧ g.countQ ≤ (r.active : Int) + g.most := by
  have := h.active
  unfold Gr.countQ
  omega
theorem keeps_tri {sl : Value} {SB : List Blk} (hS : ScrOk sl SB) {z : Int} (hz : 0 ≤ z ∧ z < 256) : Tri Try.prog 7 #[sl, .int .u8 z] SB fun v L => v = .bool true ∧ L = SB := by
  have f_mixed := mixed; have f_en10 := en10; have f_en19 := en19; have f_en20 := en20; have f_en21 := en21; have f_en22 := en22; have f_en9 := en9; have f_st59 := st59; have f_ty59 := ty59; have f_un_3 : Und Try.prog 3 _ := ⟨Try.underlying3⟩; have f_un_5 : Und Try.prog 5 _ := ⟨Try.underlying5⟩; have f_zero59 := zero59
  have hm1 := Int.tmod_nonneg 4 hz.1
  have hm2 := Int.tmod_lt_of_pos z (show (0:Int) < 4 by decide)
  have f_cv : IntKind.i64.wrap (z.tmod 4) = z.tmod 4 := wrap_in (by unfold InI; omega)
  refine tri_intro (args := [_, _]) Try.func7 rfl Try.ntmps7 rfl (rs := _) rfl rfl fun E R => ?_
  simp only [fr]
  (refine sr_ ?_; (refine ac_ ?_); refine sn_ ?_; refine sr_ ?_; (apply so_callq; (exact Ev.func); (focus (exact EvL.nil)); (focus (repeat (first | exact App.nil | apply App.cons))); assumption; exact sanity_tri; (exact sel_); exact rfl); (refine asg_ ?_); refine sn_ ?_; refine sr_ ?_; (refine mv_ ?_); (apply so_ex; (apply ex_rem; (exact ev_); ((exact Ev.const)); (first | assumption | decide | omega); (first | assumption | exact rfl)); exact rfl); (apply so_ex; (apply ex_convert; (exact ev_); assumption; assumption; (first | assumption | exact rfl)); exact rfl))
  (apply so_call; (exact Ev.func); (focus ((apply EvL.cons; (exact ev_)); exact EvL.nil)); (focus (repeat (first | exact App.nil | apply App.cons))); assumption; (exact newR_tri (most := z.tmod 4)); (exact sel_); exact rfl)
  rintro v Lg ⟨pg, rfl, hG⟩
  ((refine asg_ ?_); refine sn_ ?_; (apply sc_seq); (apply sc_region))
  (apply so_call; (exact Ev.func); (focus ((apply EvL.cons; (exact Ev.const)); exact EvL.nil)); (focus (repeat (first | exact App.nil | apply App.cons))); assumption; (exact newR_tri (most := 100)); (exact sel_); exact rfl)
  rintro v Lh ⟨ph, rfl, hH⟩
  ((refine asg_ ?_); refine sn_ ?_; refine sr_ ?_; (apply so_ex; (apply ex_build; ((focus (exact EvP.nil))); assumption; ((focus (repeat (first | exact Bld.nil (by assumption) | (apply Bld.cons; assumption; exact rfl; exact rfl; (focus (repeat (first | exact SetSub.nil | apply SetSub.take | apply SetSub.drop))))))))); exact rfl); (apply so_box; (exact ev_); exact rfl; exact rfl; intro _); (refine asg_ ?_); refine sn_ ?_; refine sr_ ?_; (apply so_ex; (apply ex_build; ((focus (exact EvP.nil))); assumption; ((focus (repeat (first | exact Bld.nil (by assumption) | (apply Bld.cons; assumption; exact rfl; exact rfl; (focus (repeat (first | exact SetSub.nil | apply SetSub.take | apply SetSub.drop))))))))); exact rfl); (apply so_box; (exact ev_); exact rfl; exact rfl; intro _); (refine asg_ ?_); refine sn_ ?_; (apply sc_seq); refine sr_ ?_; (refine mv_ ?_); (refine mv_ ?_); (refine mv_ ?_))
  rename_i qw qv
  have hst := hS ph qv (Gr.new 100) Lh [(qv, .cells [Value.slice none 0 0, .slice none 0 0, .int .i64 0].toArray 59)] 100 hH (rrep_new qv) (Cp.new 100) rfl
  (apply so_call; (exact Ev.func); (focus ((apply EvL.cons; (exact ev_)); (apply EvL.cons; (exact ev_)); (apply EvL.cons; (exact ev_)); exact EvL.nil)); (focus (repeat (first | exact App.nil | apply App.cons))); assumption; (exact hst); (exact sel_); exact rfl)
  rintro v L ⟨rfl, K1, K2, h, rv, L1, L2, k1, k2, hH2, hV2, hCv, hmv, rfl⟩
  simp only [List.append_assoc]
  ((refine se_ (ex_not ev_) ?_); refine sn_ ?_; (refine cf_ ?_); (apply sc_skip); (apply nm_then); refine sr_ ?_; (refine mv_ ?_); (refine mv_ ?_); (refine mv_ ?_))
  have hst2 := hS pg qw (Gr.new (z.tmod 4)) Lg [(qw, .cells [Value.slice none 0 0, .slice none 0 0, .int .i64 0].toArray 59)] (z.tmod 4) hG (rrep_new qw) (Cp.new _) rfl
  (apply so_call; (exact Ev.func); (focus ((apply EvL.cons; (exact ev_)); (apply EvL.cons; (exact ev_)); (apply EvL.cons; (exact ev_)); exact EvL.nil)); (focus (repeat (first | exact App.nil | apply App.cons))); assumption; (exact hst2); (exact sel_); exact rfl)
  rintro v L ⟨rfl, K3, K4, g, rw_, L3, L4, k3, k4, hG2, hW2, hCw, hmw, rfl⟩
  simp only [List.append_assoc]
  have c1 := countR_tri hG2 (by omega)
  have c2 := countR_tri hH2 (by omega)
  have d1 := actRR hW2
  have d2 := actRR hV2
  have hw := hW2.nb
  have hal := alike_tri hG2 hW2 hCw (by omega)
  have e1 := count_le hCw (by omega)
  have e2 := count_le hCv (by omega)
  rw [hmw] at e1
  have hact : (rw_.active : Int) ≤ 60 := by
    have h1 := List.length_filter_le (fun y : RT => !decide (y.st = 3)) rw_.L
    unfold RG.active
    omega
  have hact0 : (0 : Int) ≤ (rw_.active : Int) := Int.natCast_nonneg _
  generalize g.countQ = cg at c1 e1
  generalize h.countQ = ch at c2 e2
  generalize (rw_.active : Int) = aw at d1 e1 hact hact0
  generalize (rv.active : Int) = av at d2 e2
  obtain ⟨e1a, e1b⟩ := e1
  obtain ⟨e2a, e2b⟩ := e2
  have f_s : IntKind.i64.wrap (aw + z.tmod 4) = aw + z.tmod 4 := wrap_in (by unfold InI; omega)
  ((refine asg_ ?_); refine sn_ ?_; refine sr_ ?_; (refine mv_ ?_); (refine mv_ ?_); (refine wt_ ?_); (refine mv_ ?_); (refine se_ (ex_pick_t ev_ ev_) ?_); (refine mv_ ?_); (refine wt_ ?_); (refine mv_ ?_); (refine wt_ ?_); (apply so_callq; (exact Ev.func); (focus ((apply EvL.cons; (exact ev_)); exact EvL.nil)); (focus (repeat (first | exact App.nil | apply App.cons))); assumption; exact c1; (exact sel_); exact rfl); (refine wt_ ?_); (refine mv_ ?_); (refine wt_ ?_); (apply so_callq; (exact Ev.func); (focus ((apply EvL.cons; (exact ev_)); exact EvL.nil)); (focus (repeat (first | exact App.nil | apply App.cons))); assumption; exact d1; (exact sel_); exact rfl); (refine wt_ ?_); (refine mv_ ?_); (refine wt_ ?_); (apply so_ex; (apply ex_rem; (exact ev_); ((exact Ev.const)); (first | assumption | decide | omega); (first | assumption | exact rfl)); exact rfl); (refine wt_ ?_); (apply so_ex; (apply ex_convert; (exact ev_); assumption; assumption; (first | assumption | exact rfl)); exact rfl); (refine wt_ ?_); (refine se_ (ex_add ev_ ev_ wr_) ?_); (refine wt_ ?_); (refine se_ (ex_leq_t ev_ ev_ om_) ?_); (refine se_ (ex_pick_t ev_ ev_) ?_); (refine mv_ ?_); (refine wt_ ?_); (refine mv_ ?_); (refine wt_ ?_); (apply so_callq; (exact Ev.func); (focus ((apply EvL.cons; (exact ev_)); exact EvL.nil)); (focus (repeat (first | exact App.nil | apply App.cons))); assumption; exact c1; (exact sel_); exact rfl); (refine wt_ ?_); (refine mv_ ?_); (refine wt_ ?_); (apply so_callq; (exact Ev.func); (focus ((apply EvL.cons; (exact ev_)); exact EvL.nil)); (focus (repeat (first | exact App.nil | apply App.cons))); assumption; exact d1; (exact sel_); exact rfl); (refine wt_ ?_); (refine se_ (ex_geq_t ev_ ev_ om_) ?_); (refine se_ (ex_pick_t ev_ ev_) ?_); (refine mv_ ?_); (refine wt_ ?_); (refine mv_ ?_); (refine wt_ ?_); (apply so_callq; (exact Ev.func); (focus ((apply EvL.cons; (exact ev_)); exact EvL.nil)); (focus (repeat (first | exact App.nil | apply App.cons))); assumption; exact c2; (exact sel_); exact rfl); (refine wt_ ?_); (refine mv_ ?_); (refine wt_ ?_); (apply so_callq; (exact Ev.func); (focus ((apply EvL.cons; (exact ev_)); exact EvL.nil)); (focus (repeat (first | exact App.nil | apply App.cons))); assumption; exact d2; (exact sel_); exact rfl); (refine wt_ ?_); (refine se_ (ex_geq_t ev_ ev_ om_) ?_); (refine se_ (ex_pick_t ev_ ev_) ?_); (refine mv_ ?_); (refine wt_ ?_); (refine mv_ ?_); (refine wt_ ?_); (refine mv_ ?_); (refine wt_ ?_); (apply so_callq; (exact Ev.func); (focus ((apply EvL.cons; (exact ev_)); (apply EvL.cons; (exact ev_)); exact EvL.nil)); (focus (repeat (first | exact App.nil | apply App.cons))); assumption; exact hal; (exact sel_); exact rfl); (refine se_ (ex_pick_t ev_ ev_) ?_); (refine asg_ ?_); refine sn_ ?_; (apply sc_ret); (apply ret_ok; (focus ((apply Res.tmp; (exact ev_)); exact Res.nil)); (exact ⟨rfl, rfl⟩); (exact sel_); (exact appb_)))
end Go.Proofs.Ytomgkmoecbnddaa
