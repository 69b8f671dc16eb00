/- Conflict: New, ready; a graph that has no maps yet. -/
import Derived.Test.YtomgkmoecbnddaaR6
set_option linter.unusedVariables false
set_option linter.unusedSimpArgs false
set_option linter.unnecessarySimpa false
namespace Go.Proofs.Ytomgkmoecbnddaa
open Go.Sym

/-- the cells of a graph without maps -/
def fblk (p : Nat) (most : Int) : List Blk := [(p, .cells [Value.int .i64 most, .int .i64 0, .map none, .map none].toArray 66)]
theorem new_tri {most : Int} : Tri Try.prog 10 #[.int .i64 most] [] fun v L => ∃ p, v = .pointer (some ⟨p, 0, none⟩) ∧ L = fblk p most := by
  have f_mixed := mixed; have f_pl66_0 := pl66_0; have f_st66 := st66; have f_ty66 := ty66; have f_zero66 := zero66
  refine tri_intro (args := [_]) Try.func10 rfl Try.ntmps10 rfl (rs := _) rfl rfl fun E R => ?_
  simp only [fr, List.cons_append, List.nil_append]
  (refine sr_ ?_; (refine ac_ ?_); refine sn_ ?_; refine sr_ ?_; (refine mv_ ?_); (apply so_ex; (apply ex_build; ((focus ((apply EvP.cons; (exact ev_)); exact EvP.nil))); assumption; ((focus (repeat (first | exact Bld.nil (by assumption) | (apply Bld.cons; assumption; exact rfl; exact rfl; (focus (repeat (first | exact SetSub.nil | apply SetSub.take | apply SetSub.drop))))))))); exact rfl); (apply so_box; (exact ev_); exact rfl; exact rfl; intro _); (refine asg_ ?_); refine sn_ ?_; (apply sc_ret))
  (apply ret_ok; (focus ((apply Res.tmp; (exact ev_)); exact Res.nil)); (exact ⟨_, rfl, rfl⟩); (exact sel_); (exact appb_))
theorem findF_tri {p : Nat} {most tx : Int} : TriQ Try.prog 30 #[.pointer (some ⟨p, 0, none⟩), .int .i64 tx] (fblk p most) (.pointer none) := by
  have f_mixed := mixed; have f_fo66_2 := fo66_2; have f_fo66_3 := fo66_3; have f_ty64 := ty64; have f_ty69 := ty69; have f_un_34 : Und Try.prog 34 _ := ⟨Try.underlying34⟩; have f_un_64 : Und Try.prog 64 _ := ⟨Try.underlying64⟩; have f_un_69 : Und Try.prog 69 _ := ⟨Try.underlying69⟩; have f_zero69 := zero69; have f_zv69 := zv69
  have f_kl := KL3
  refine tri_intro (args := [_, _]) Try.func30 rfl Try.ntmps30 rfl (rs := _) rfl rfl fun E R => ?_
  simp only [fr, fblk, List.cons_append, List.nil_append]
  (refine sr_ ?_; (refine ac_ ?_); refine sn_ ?_; (apply sc_seq); refine sr_ ?_; (refine mv_ ?_); (refine se_ (ex_eqp_f ev_ .const asm_) ?_); refine sn_ ?_; (refine cf_ ?_); (apply sc_skip); (apply nm_then); (apply sc_seq); refine sr_ ?_; (refine mv_ ?_); (refine se_ (ex_nilCheck ev_) ?_); (refine se_ (ex_fieldAddr ev_ asm_) ?_); (refine se_ (ex_load1 ev_ asm_ mem_ nth_) ?_); (refine mv_ ?_); (apply so_ex; (apply ex_lookup_nil (enc := Value.int .i64) (k := tx); (exact ev_); (exact ev_); assumption; assumption; assumption; exact rfl); exact rfl); (refine asg_ ?_); refine sn_ ?_; refine sr_ ?_; (refine mv_ ?_); (refine se_ (ex_nep_f ev_ .const asm_) ?_); refine sn_ ?_; (refine cf_ ?_); (apply sc_skip); (apply nm_then); refine sr_ ?_; (refine mv_ ?_); (refine se_ (ex_nilCheck ev_) ?_); (refine se_ (ex_fieldAddr ev_ asm_) ?_); (refine se_ (ex_load1 ev_ asm_ mem_ nth_) ?_); (refine mv_ ?_); (apply so_ex; (apply ex_lookup_nil (enc := Value.int .i64) (k := tx); (exact ev_); (exact ev_); assumption; assumption; assumption; exact rfl); exact rfl); (refine asg_ ?_); refine sn_ ?_; (apply sc_ret); (apply ret_ok; (focus ((apply Res.tmp; (exact ev_)); exact Res.nil)); (exact ⟨rfl, rfl⟩); (exact sel_); (exact appb_)))
theorem findN_tri {tx : Int} : TriQ Try.prog 30 #[.pointer none, .int .i64 tx] [] (.pointer none) := by
  have f_mixed := mixed; have f_fo66_2 := fo66_2; have f_fo66_3 := fo66_3; have f_ty64 := ty64; have f_ty69 := ty69; have f_un_34 : Und Try.prog 34 _ := ⟨Try.underlying34⟩; have f_un_64 : Und Try.prog 64 _ := ⟨Try.underlying64⟩; have f_un_69 : Und Try.prog 69 _ := ⟨Try.underlying69⟩; have f_zero69 := zero69; have f_zv69 := zv69
  refine tri_intro (args := [_, _]) Try.func30 rfl Try.ntmps30 rfl (rs := _) rfl rfl fun E R => ?_
  simp only [fr, List.cons_append, List.nil_append]
  (refine sr_ ?_; (refine ac_ ?_); refine sn_ ?_; (apply sc_seq); refine sr_ ?_; (refine mv_ ?_); (refine se_ (ex_eqp_t ev_ .const asm_) ?_); refine sn_ ?_; (refine ct_ ?_); refine sr_ ?_; (refine ac_ ?_); refine sn_ ?_; (apply sc_ret); (apply rt_then); (apply ret_ok; (focus ((apply Res.tmp; (exact ev_)); exact Res.nil)); (exact ⟨rfl, rfl⟩); (exact sel_); (exact appb_)))
theorem inv_new (p lm em : Nat) (most : Int) (ρ : Int → Raw) : Inv 0 (Gr.new most) ⟨p, lm, em, #[], 0, #[], 0, ρ⟩ := by
  have h0 : ∀ n : Nd, n ∉ (Gr.new most).live := fun n h => by cases h
  have h1 : ∀ n : Nd, n ∉ (Gr.new most).ended := fun n h => by cases h
  have h2 : ∀ n : Nd, n ∉ (Gr.new most).nodes := fun n h => by cases h
  refine ⟨⟨List.nodup_nil, fun n h => absurd h (h0 n), fun n h => absurd h (h1 n), fun n h => absurd h (h0 n), fun n h => absurd h (h0 n), fun n h => absurd h (h0 n), fun n h => absurd h (h0 n), fun n h => absurd h (h1 n), fun n h => absurd h (h2 n), fun n h => absurd h (h2 n), ⟨Nat.le_refl _, Int.le_refl 0, Int.le_refl 0, by decide⟩⟩, MapOf.empty, MapOf.empty⟩
theorem readyF_tri {p : Nat} {most : Int} : Tri Try.prog 29 #[.pointer (some ⟨p, 0, none⟩)] (fblk p most) fun v L => v = .tuple #[] ∧ ∃ M, M.p = p ∧ L = blks (Gr.new most) M ∧ Inv 0 (Gr.new most) M := by
  have f_mixed := mixed; have f_fo66_2 := fo66_2; have f_fo66_3 := fo66_3; have f_ty64 := ty64; have f_un_64 : Und Try.prog 64 _ := ⟨Try.underlying64⟩
  refine tri_intro (args := [_]) Try.func29 rfl Try.ntmps29 rfl (rs := []) rfl rfl fun E R => ?_
  simp only [fr, fblk, List.cons_append, List.nil_append]
  (refine sr_ ?_; (refine mv_ ?_); (refine se_ (ex_nilCheck ev_) ?_); (refine se_ (ex_fieldAddr ev_ asm_) ?_); (refine se_ (ex_load1 ev_ asm_ mem_ nth_) ?_); (refine se_ (ex_eqm_t ev_ .const asm_) ?_); refine sn_ ?_; (refine ct_ ?_); (apply sc_region); (refine mv_ ?_); (refine mv_ ?_); (apply so_makeMap; exact rfl; intro _); (apply so_makeMap; exact rfl; intro _); (refine se_ (ex_nilCheck ev_) ?_); (refine se_ (ex_fieldAddr ev_ asm_) ?_); (apply so_store; (exact ev_); (exact ev_); assumption; exact rfl; exact rfl; exact rfl; (focus (repeat (first | exact Turn.here | apply Turn.there | apply Turn.pre))); (focus (repeat (first | exact SetSub.nil | apply SetSub.take | apply SetSub.drop)))); (refine se_ (ex_nilCheck ev_) ?_); (refine se_ (ex_fieldAddr ev_ asm_) ?_); (apply so_store; (exact ev_); (exact ev_); assumption; exact rfl; exact rfl; exact rfl; (focus (repeat (first | exact Turn.here | apply Turn.there | apply Turn.pre))); (focus (repeat (first | exact SetSub.nil | apply SetSub.take | apply SetSub.drop)))); (apply so_nil))
  rename_i b1 b2
  have hi := inv_new p b1 b2 most fun _ => ⟨0, 0, 0, #[], 0, #[], 0, .pointer none, []⟩
  have hb : blks (Gr.new most) ⟨p, b1, b2, #[], 0, #[], 0, fun _ => ⟨0, 0, 0, #[], 0, #[], 0, .pointer none, []⟩⟩ = [(p, .cells [Value.int .i64 most, .int .i64 0, .map (some b1), .map (some b2)].toArray 66), (b1, .map #[] 0), (b2, .map #[] 0)] := rfl
  (apply ret_ok'; (focus (exact Res.nil)); (exact ⟨rfl, ⟨p, b1, b2, #[], 0, #[], 0, fun _ => ⟨0, 0, 0, #[], 0, #[], 0, .pointer none, []⟩⟩, rfl, hb.symm, hi⟩); (exact sel_); (exact appb_))
theorem readyG_tri {g : Gr} {M : Mem} : TriQ Try.prog 29 #[.pointer (some ⟨M.p, 0, none⟩)] (hblk g M) (.tuple #[]) := by
  have f_mixed := mixed; have f_fo66_2 := fo66_2; have f_fo66_3 := fo66_3; have f_ty64 := ty64; have f_un_64 : Und Try.prog 64 _ := ⟨Try.underlying64⟩
  refine tri_intro (args := [_]) Try.func29 rfl Try.ntmps29 rfl (rs := []) rfl rfl fun E R => ?_
  simp only [fr, hblk, gBlk, List.cons_append, List.nil_append]
  (refine sr_ ?_; (refine mv_ ?_); (refine se_ (ex_nilCheck ev_) ?_); (refine se_ (ex_fieldAddr ev_ asm_) ?_); (refine se_ (ex_load1 ev_ asm_ mem_ nth_) ?_); (refine se_ (ex_eqm_f ev_ .const asm_) ?_); refine sn_ ?_; (refine cf_ ?_); (apply sc_skip); (apply ret_ok'; (focus (exact Res.nil)); (exact ⟨rfl, rfl⟩); (exact sel_); (exact appb_)))
end Go.Proofs.Ytomgkmoecbnddaa
