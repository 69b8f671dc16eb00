/- Conflict: from. -/
import Derived.Test.YtomgkmoecbnddaaQ4
set_option linter.unusedVariables false
set_option linter.unusedSimpArgs false
set_option linter.unnecessarySimpa false
namespace Go.Proofs.Ytomgkmoecbnddaa
open Go.Sym

theorem from_tri {K : Nat} {g : Gr} {ρ : Int → Raw} (hI : InvN K g ρ) {p b : Nd} {asked : Bool} (hp : p ∈ g.nodes) (hb : b ∈ g.nodes) :
    Tri Try.prog 34 #[.pointer (some ⟨(ρ p.id).b, 0, none⟩), .pointer (some ⟨(ρ b.id).b, 0, none⟩), .bool asked] (NC ρ g.nodes ++ NM ρ g.nodes)
      fun v L => ∃ B, SlS ρ (fromL g.nodes p b asked) v B ∧ L = B ++ (NC ρ g.nodes ++ NM ρ g.nodes) := by
  have f_mixed := mixed; have f_by3 := by3; have f_by79 := by79; have f_en31 := en31; have f_en38 := en38; have f_en51 := en51; have f_fo72_2 := fo72_2; have f_fo72_3 := fo72_3; have f_fo72_4 := fo72_4; have f_fo72_6 := fo72_6; have f_fo72_8 := fo72_8; have f_pl79_0 := pl79_0; have f_pl79_1 := pl79_1; have f_pl79_2 := pl79_2; have f_st79 := st79; have f_ty25 := ty25; have f_ty3 := ty3; have f_ty4 := ty4; have f_ty64 := ty64; have f_ty69 := ty69; have f_ty75 := ty75; have f_ty79 := ty79; have f_un_25 : Und Try.prog 25 _ := ⟨Try.underlying25⟩; have f_un_64 : Und Try.prog 64 _ := ⟨Try.underlying64⟩; have f_un_75 : Und Try.prog 75 _ := ⟨Try.underlying75⟩; have f_zero3 := zero3; have f_zero69 := zero69; have f_zero79 := zero79; have f_zv3 := zv3; have f_zv69 := zv69; have f_zv79 := zv79
  have f_kl := KL3
  have f_en51 : Sym.Enters Try.prog 51 := ⟨fun _ _ => by kernel_rfl⟩
  have hpc := nb_cell (ρ := ρ) hp
  have hbc := nb_cell (ρ := ρ) hb
  simp only [ncell, Nd.cells] at hpc hbc
  refine tri_intro (args := [_, _, _]) Try.func34 rfl Try.ntmps34 rfl (rs := _) rfl rfl fun E R => ?_
  simp only [fr, List.append_assoc]
  unfold fromL
  ((apply sc_seq); ((fail_if_success (apply sc_region (id := 2))); apply sc_region); (refine ac_ ?_); refine sn_ ?_; (apply sc_seq); ((fail_if_success (apply sc_region (id := 2))); apply sc_region); (apply so_ex; (apply ex_assign; ((exact Ev.func))); exact rfl); refine sn_ ?_; (apply sc_seq))
  refine SC.mono (Q := fun u f L => u = .normal ∧ (∃ c, (c = decide (firstB p b asked)) ∧ At f 8 (.bool c)) ∧ At f 0 (.pointer (some ⟨(ρ p.id).b, 0, none⟩)) ∧ At f 1 (.pointer (some ⟨(ρ b.id).b, 0, none⟩)) ∧ At f 6 (.slice none 0 0) ∧ At f 7 (.func (.func 51) #[] #[]) ∧ L = NC ρ g.nodes ++ (NM ρ g.nodes ++ R)) ?_ ?_
  · cases asked with
    | true => ((apply sc_quiet (id := 2); assumption; kernel_rfl); (refine qe_ (ex_move ev_) ?_); (refine qe_ (ex_nilCheck ev_) ?_); (refine qe_ (ex_fieldAddr ev_ asm_) ?_); (refine qe_ (ex_load1 ev_ asm_ mem_ nth_) ?_); (apply sq_split; (apply ex_eql; (exact ev_); ((exact Ev.const))); exact rfl; refine ⟨fun _ => ?_, fun _ => ?_⟩); (refine qe_ (ex_move ev_) ?_); (refine qw_ ?_); (refine qe_ (ex_move ev_) ?_); (refine qw_ ?_); (refine qe_ (ex_nilCheck ev_) ?_); (refine qw_ ?_); (refine qe_ (ex_fieldAddr ev_ asm_) ?_); (refine qw_ ?_); (refine qe_ (ex_load1 ev_ asm_ mem_ nth_) ?_); (refine qw_ ?_); (apply sq_split; (apply ex_neq; (exact ev_); ((exact Ev.const))); exact rfl; refine ⟨fun _ => ?_, fun _ => ?_⟩); (refine qw_ ?_); (refine qe_ (ex_move ev_) ?_); (refine qs_ ?_); (refine qs_ ?_); (refine qs_ ?_); (refine qs_ ?_); (refine qs_ ?_); (refine qs_ ?_); (refine qs_ ?_); (refine qs_ ?_); (refine qs_ ?_); (refine qw_ ?_); (refine qe_ (ex_pick_t ev_ .const) ?_); (refine qe_ (ex_pick_t ev_ ev_) ?_); (refine qe_ (ex_move ev_) ?_); (refine qs_ ?_); (refine qs_ ?_); (refine qu_ ?_); (refine qu_ ?_); (refine qu_ ?_); (refine qu_ ?_); (refine qu_ ?_); (refine qs_ ?_); (refine qs_ ?_); (refine qu_ ?_); (refine qu_ ?_); (refine qu_ ?_); (refine qu_ ?_); (refine qu_ ?_); (refine qs_ ?_); (refine qs_ ?_); (refine qu_ ?_); (refine qu_ ?_); (refine qu_ ?_); (refine qu_ ?_); (refine qu_ ?_); (refine qs_ ?_); (refine qe_ (ex_pick_t ev_ .const) ?_); (refine qe_ (ex_assign ev_) ?_); (apply sq_nil); (apply And.intro rfl; refine ⟨⟨_, ?_, at_⟩, at_, at_, at_, at_, rfl⟩; (focus (simp [firstB, *]; done))); (refine qw_ ?_); (refine qe_ (ex_move ev_) ?_); (refine qw_ ?_); (refine qe_ (ex_move ev_) ?_); (refine qw_ ?_); (refine qe_ (ex_nilCheck ev_) ?_); (refine qw_ ?_); (refine qe_ (ex_fieldAddr ev_ asm_) ?_); (refine qw_ ?_); (refine qe_ (ex_load1 ev_ asm_ mem_ nth_) ?_); (refine qw_ ?_); (refine qe_ (ex_move ev_) ?_); (refine qw_ ?_); (refine qe_ (ex_nilCheck ev_) ?_); (refine qw_ ?_); (refine qe_ (ex_fieldAddr ev_ asm_) ?_); (refine qw_ ?_); (refine qe_ (ex_load1 ev_ asm_ mem_ nth_) ?_); (refine qw_ ?_); (apply sq_split; (apply ex_gtr; (exact ev_); (exact ev_)); exact rfl; refine ⟨fun _ => ?_, fun _ => ?_⟩); (refine qw_ ?_); (refine qe_ (ex_pick_f ev_ ev_) ?_); (refine qe_ (ex_pick_t ev_ ev_) ?_); (refine qe_ (ex_move ev_) ?_); (refine qs_ ?_); (refine qs_ ?_); (refine qu_ ?_); (refine qu_ ?_); (refine qu_ ?_); (refine qu_ ?_); (refine qu_ ?_); (refine qs_ ?_); (refine qs_ ?_); (refine qu_ ?_); (refine qu_ ?_); (refine qu_ ?_); (refine qu_ ?_); (refine qu_ ?_); (refine qs_ ?_); (refine qs_ ?_); (refine qu_ ?_); (refine qu_ ?_); (refine qu_ ?_); (refine qu_ ?_); (refine qu_ ?_); (refine qs_ ?_); (refine qe_ (ex_pick_t ev_ .const) ?_); (refine qe_ (ex_assign ev_) ?_); (apply sq_nil); (apply And.intro rfl; refine ⟨⟨_, ?_, at_⟩, at_, at_, at_, at_, rfl⟩; (focus (simp [firstB, *]; done))); (refine qw_ ?_); (refine qe_ (ex_pick_f ev_ ev_) ?_); (refine qe_ (ex_pick_t ev_ ev_) ?_); (refine qe_ (ex_move ev_) ?_); (refine qw_ ?_); (refine qe_ (ex_move ev_) ?_); (refine qw_ ?_); (refine qe_ (ex_move ev_) ?_); (refine qs_ ?_); (refine qs_ ?_); (refine qs_ ?_); (refine qs_ ?_); (refine qs_ ?_); (refine qw_ ?_); (refine qe_ (ex_pick_t ev_ .const) ?_); (refine qw_ ?_); (refine qe_ (ex_move ev_) ?_); (refine qw_ ?_); (refine qe_ (ex_move ev_) ?_); (refine qw_ ?_); (refine qe_ (ex_nilCheck ev_) ?_); (refine qw_ ?_); (refine qe_ (ex_fieldAddr ev_ asm_) ?_); (refine qw_ ?_); (refine qe_ (ex_load1 ev_ asm_ mem_ nth_) ?_); (refine qw_ ?_); (refine qe_ (ex_neq_f ev_ .const om_) ?_); (refine qw_ ?_); (refine qe_ (ex_pick_t ev_ ev_) ?_); (refine qw_ ?_); (refine qe_ (ex_move ev_) ?_); (refine qs_ ?_); (refine qs_ ?_); (refine qs_ ?_); (refine qs_ ?_); (refine qs_ ?_); (refine qw_ ?_); (refine qe_ (ex_pick_f ev_ .const) ?_); (refine qe_ (ex_pick_f ev_ ev_) ?_); (refine qe_ (ex_assign ev_) ?_); (apply sq_nil); (apply And.intro rfl; refine ⟨⟨_, ?_, at_⟩, at_, at_, at_, at_, rfl⟩; (focus (simp [firstB, *]; done))); (refine qe_ (ex_move ev_) ?_); (refine qs_ ?_); (refine qs_ ?_); (refine qs_ ?_); (refine qs_ ?_); (refine qs_ ?_); (refine qs_ ?_); (refine qu_ ?_); (refine qu_ ?_); (refine qu_ ?_); (refine qu_ ?_); (refine qu_ ?_); (refine qu_ ?_); (refine qu_ ?_); (refine qu_ ?_); (refine qu_ ?_); (refine qs_ ?_); (refine qe_ (ex_pick_f ev_ .const) ?_); (refine qe_ (ex_move ev_) ?_); (refine qw_ ?_); (refine qe_ (ex_move ev_) ?_); (refine qw_ ?_); (refine qe_ (ex_move ev_) ?_); (refine qs_ ?_); (refine qs_ ?_); (refine qs_ ?_); (refine qs_ ?_); (refine qs_ ?_); (refine qw_ ?_); (refine qe_ (ex_pick_t ev_ .const) ?_); (refine qw_ ?_); (refine qe_ (ex_move ev_) ?_); (refine qw_ ?_); (refine qe_ (ex_move ev_) ?_); (refine qw_ ?_); (refine qe_ (ex_nilCheck ev_) ?_); (refine qw_ ?_); (refine qe_ (ex_fieldAddr ev_ asm_) ?_); (refine qw_ ?_); (refine qe_ (ex_load1 ev_ asm_ mem_ nth_) ?_); (refine qw_ ?_); (refine qe_ (ex_neq_t ev_ .const om_) ?_); (refine qw_ ?_); (refine qe_ (ex_pick_t ev_ ev_) ?_); (refine qw_ ?_); (refine qe_ (ex_move ev_) ?_); (refine qw_ ?_); (refine qe_ (ex_move ev_) ?_); (refine qw_ ?_); (refine qe_ (ex_nilCheck ev_) ?_); (refine qw_ ?_); (refine qe_ (ex_fieldAddr ev_ asm_) ?_); (refine qw_ ?_); (refine qe_ (ex_load1 ev_ asm_ mem_ nth_) ?_); (refine qw_ ?_); (apply sq_split; (apply ex_neq; (exact ev_); ((exact Ev.const))); exact rfl; refine ⟨fun _ => ?_, fun _ => ?_⟩); (refine qw_ ?_); (refine qe_ (ex_pick_t ev_ ev_) ?_); (refine qe_ (ex_pick_f ev_ ev_) ?_); (refine qe_ (ex_assign ev_) ?_); (apply sq_nil); (apply And.intro rfl; refine ⟨⟨_, ?_, at_⟩, at_, at_, at_, at_, rfl⟩; (focus (simp [firstB, *]; done))); (refine qw_ ?_); (refine qe_ (ex_pick_t ev_ ev_) ?_); (refine qe_ (ex_pick_f ev_ ev_) ?_); (refine qe_ (ex_assign ev_) ?_); (apply sq_nil); (apply And.intro rfl; refine ⟨⟨_, ?_, at_⟩, at_, at_, at_, at_, rfl⟩; (focus (simp [firstB, *]; done))))
    | false => ((apply sc_quiet (id := 2); assumption; kernel_rfl); (refine qe_ (ex_move ev_) ?_); (refine qe_ (ex_nilCheck ev_) ?_); (refine qe_ (ex_fieldAddr ev_ asm_) ?_); (refine qe_ (ex_load1 ev_ asm_ mem_ nth_) ?_); (apply sq_split; (apply ex_eql; (exact ev_); ((exact Ev.const))); exact rfl; refine ⟨fun _ => ?_, fun _ => ?_⟩); (refine qe_ (ex_move ev_) ?_); (refine qw_ ?_); (refine qe_ (ex_move ev_) ?_); (refine qw_ ?_); (refine qe_ (ex_nilCheck ev_) ?_); (refine qw_ ?_); (refine qe_ (ex_fieldAddr ev_ asm_) ?_); (refine qw_ ?_); (refine qe_ (ex_load1 ev_ asm_ mem_ nth_) ?_); (refine qw_ ?_); (apply sq_split; (apply ex_neq; (exact ev_); ((exact Ev.const))); exact rfl; refine ⟨fun _ => ?_, fun _ => ?_⟩); (refine qw_ ?_); (refine qe_ (ex_move ev_) ?_); (refine qs_ ?_); (refine qs_ ?_); (refine qs_ ?_); (refine qs_ ?_); (refine qs_ ?_); (refine qs_ ?_); (refine qs_ ?_); (refine qs_ ?_); (refine qs_ ?_); (refine qw_ ?_); (refine qe_ (ex_pick_t ev_ .const) ?_); (refine qe_ (ex_pick_t ev_ ev_) ?_); (refine qe_ (ex_move ev_) ?_); (refine qs_ ?_); (refine qs_ ?_); (refine qu_ ?_); (refine qu_ ?_); (refine qu_ ?_); (refine qu_ ?_); (refine qu_ ?_); (refine qs_ ?_); (refine qs_ ?_); (refine qu_ ?_); (refine qu_ ?_); (refine qu_ ?_); (refine qu_ ?_); (refine qu_ ?_); (refine qs_ ?_); (refine qs_ ?_); (refine qu_ ?_); (refine qu_ ?_); (refine qu_ ?_); (refine qu_ ?_); (refine qu_ ?_); (refine qs_ ?_); (refine qe_ (ex_pick_t ev_ .const) ?_); (refine qe_ (ex_assign ev_) ?_); (apply sq_nil); (apply And.intro rfl; refine ⟨⟨_, ?_, at_⟩, at_, at_, at_, at_, rfl⟩; (focus (simp [firstB, *]; done))); (refine qw_ ?_); (refine qe_ (ex_move ev_) ?_); (refine qw_ ?_); (refine qe_ (ex_move ev_) ?_); (refine qw_ ?_); (refine qe_ (ex_nilCheck ev_) ?_); (refine qw_ ?_); (refine qe_ (ex_fieldAddr ev_ asm_) ?_); (refine qw_ ?_); (refine qe_ (ex_load1 ev_ asm_ mem_ nth_) ?_); (refine qw_ ?_); (refine qe_ (ex_move ev_) ?_); (refine qw_ ?_); (refine qe_ (ex_nilCheck ev_) ?_); (refine qw_ ?_); (refine qe_ (ex_fieldAddr ev_ asm_) ?_); (refine qw_ ?_); (refine qe_ (ex_load1 ev_ asm_ mem_ nth_) ?_); (refine qw_ ?_); (apply sq_split; (apply ex_gtr; (exact ev_); (exact ev_)); exact rfl; refine ⟨fun _ => ?_, fun _ => ?_⟩); (refine qw_ ?_); (refine qe_ (ex_pick_f ev_ ev_) ?_); (refine qe_ (ex_pick_t ev_ ev_) ?_); (refine qe_ (ex_move ev_) ?_); (refine qs_ ?_); (refine qs_ ?_); (refine qu_ ?_); (refine qu_ ?_); (refine qu_ ?_); (refine qu_ ?_); (refine qu_ ?_); (refine qs_ ?_); (refine qs_ ?_); (refine qu_ ?_); (refine qu_ ?_); (refine qu_ ?_); (refine qu_ ?_); (refine qu_ ?_); (refine qs_ ?_); (refine qs_ ?_); (refine qu_ ?_); (refine qu_ ?_); (refine qu_ ?_); (refine qu_ ?_); (refine qu_ ?_); (refine qs_ ?_); (refine qe_ (ex_pick_t ev_ .const) ?_); (refine qe_ (ex_assign ev_) ?_); (apply sq_nil); (apply And.intro rfl; refine ⟨⟨_, ?_, at_⟩, at_, at_, at_, at_, rfl⟩; (focus (simp [firstB, *]; done))); (refine qw_ ?_); (refine qe_ (ex_pick_f ev_ ev_) ?_); (refine qe_ (ex_pick_t ev_ ev_) ?_); (refine qe_ (ex_move ev_) ?_); (refine qw_ ?_); (refine qe_ (ex_move ev_) ?_); (refine qw_ ?_); (refine qe_ (ex_move ev_) ?_); (refine qw_ ?_); (refine qe_ (ex_move ev_) ?_); (refine qw_ ?_); (refine qe_ (ex_nilCheck ev_) ?_); (refine qw_ ?_); (refine qe_ (ex_fieldAddr ev_ asm_) ?_); (refine qw_ ?_); (refine qe_ (ex_load1 ev_ asm_ mem_ nth_) ?_); (refine qw_ ?_); (refine qe_ (ex_eql_f ev_ .const om_) ?_); (refine qw_ ?_); (refine qe_ (ex_pick_f ev_ ev_) ?_); (refine qw_ ?_); (refine qe_ (ex_move ev_) ?_); (refine qs_ ?_); (refine qs_ ?_); (refine qs_ ?_); (refine qs_ ?_); (refine qs_ ?_); (refine qw_ ?_); (refine qe_ (ex_pick_f ev_ .const) ?_); (refine qw_ ?_); (refine qe_ (ex_move ev_) ?_); (refine qs_ ?_); (refine qs_ ?_); (refine qs_ ?_); (refine qs_ ?_); (refine qs_ ?_); (refine qw_ ?_); (refine qe_ (ex_pick_f ev_ .const) ?_); (refine qe_ (ex_pick_f ev_ ev_) ?_); (refine qe_ (ex_assign ev_) ?_); (apply sq_nil); (apply And.intro rfl; refine ⟨⟨_, ?_, at_⟩, at_, at_, at_, at_, rfl⟩; (focus (simp [firstB, *]; done))); (refine qe_ (ex_move ev_) ?_); (refine qs_ ?_); (refine qs_ ?_); (refine qs_ ?_); (refine qs_ ?_); (refine qs_ ?_); (refine qs_ ?_); (refine qu_ ?_); (refine qu_ ?_); (refine qu_ ?_); (refine qu_ ?_); (refine qu_ ?_); (refine qu_ ?_); (refine qu_ ?_); (refine qu_ ?_); (refine qu_ ?_); (refine qs_ ?_); (refine qe_ (ex_pick_f ev_ .const) ?_); (refine qe_ (ex_move ev_) ?_); (refine qw_ ?_); (refine qe_ (ex_move ev_) ?_); (refine qw_ ?_); (refine qe_ (ex_move ev_) ?_); (refine qw_ ?_); (refine qe_ (ex_move ev_) ?_); (refine qw_ ?_); (refine qe_ (ex_nilCheck ev_) ?_); (refine qw_ ?_); (refine qe_ (ex_fieldAddr ev_ asm_) ?_); (refine qw_ ?_); (refine qe_ (ex_load1 ev_ asm_ mem_ nth_) ?_); (refine qw_ ?_); (apply sq_split; (apply ex_eql; (exact ev_); ((exact Ev.const))); exact rfl; refine ⟨fun _ => ?_, fun _ => ?_⟩); (refine qw_ ?_); (refine qe_ (ex_pick_f ev_ ev_) ?_); (refine qw_ ?_); (refine qe_ (ex_move ev_) ?_); (refine qw_ ?_); (refine qe_ (ex_move ev_) ?_); (refine qw_ ?_); (refine qe_ (ex_nilCheck ev_) ?_); (refine qw_ ?_); (refine qe_ (ex_fieldAddr ev_ asm_) ?_); (refine qw_ ?_); (refine qe_ (ex_load1 ev_ asm_ mem_ nth_) ?_); (refine qw_ ?_); (refine qe_ (ex_neq_t ev_ .const om_) ?_); (refine qw_ ?_); (refine qe_ (ex_pick_t ev_ ev_) ?_); (refine qw_ ?_); (refine qe_ (ex_move ev_) ?_); (refine qw_ ?_); (refine qe_ (ex_move ev_) ?_); (refine qw_ ?_); (refine qe_ (ex_nilCheck ev_) ?_); (refine qw_ ?_); (refine qe_ (ex_fieldAddr ev_ asm_) ?_); (refine qw_ ?_); (refine qe_ (ex_load1 ev_ asm_ mem_ nth_) ?_); (refine qw_ ?_); (apply sq_split; (apply ex_neq; (exact ev_); ((exact Ev.const))); exact rfl; refine ⟨fun _ => ?_, fun _ => ?_⟩); (refine qw_ ?_); (refine qe_ (ex_pick_t ev_ ev_) ?_); (refine qe_ (ex_pick_f ev_ ev_) ?_); (refine qe_ (ex_assign ev_) ?_); (apply sq_nil); (apply And.intro rfl; refine ⟨⟨_, ?_, at_⟩, at_, at_, at_, at_, rfl⟩; (focus (simp [firstB, *]; done))); (refine qw_ ?_); (refine qe_ (ex_pick_t ev_ ev_) ?_); (refine qe_ (ex_pick_f ev_ ev_) ?_); (refine qe_ (ex_assign ev_) ?_); (apply sq_nil); (apply And.intro rfl; refine ⟨⟨_, ?_, at_⟩, at_, at_, at_, at_, rfl⟩; (focus (simp [firstB, *]; done))); (refine qw_ ?_); (refine qe_ (ex_pick_f ev_ ev_) ?_); (refine qw_ ?_); (refine qe_ (ex_move ev_) ?_); (refine qs_ ?_); (refine qs_ ?_); (refine qs_ ?_); (refine qs_ ?_); (refine qs_ ?_); (refine qw_ ?_); (refine qe_ (ex_pick_f ev_ .const) ?_); (refine qw_ ?_); (refine qe_ (ex_move ev_) ?_); (refine qs_ ?_); (refine qs_ ?_); (refine qs_ ?_); (refine qs_ ?_); (refine qs_ ?_); (refine qw_ ?_); (refine qe_ (ex_pick_f ev_ .const) ?_); (refine qe_ (ex_pick_f ev_ ev_) ?_); (refine qe_ (ex_assign ev_) ?_); (apply sq_nil); (apply And.intro rfl; refine ⟨⟨_, ?_, at_⟩, at_, at_, at_, at_, rfl⟩; (focus (simp [firstB, *]; done))))
  rintro u f L ⟨rfl, ⟨c8, hc8, a8⟩, a0, a1, a6, a7, rfl⟩
  apply nm_then
  ((apply sc_seq); (apply sc_seq))
  refine SC.mono (Q := fun u f L => u = .normal ∧ (∃ c, (c = decide (¬ firstB p b asked ∨ p.gone = true ∨ b.gone = true)) ∧ At f 70 (.bool c)) ∧ At f 0 (.pointer (some ⟨(ρ p.id).b, 0, none⟩)) ∧ At f 1 (.pointer (some ⟨(ρ b.id).b, 0, none⟩)) ∧ At f 6 (.slice none 0 0) ∧ At f 7 (.func (.func 51) #[] #[]) ∧ L = NC ρ g.nodes ++ (NM ρ g.nodes ++ R)) ?_ ?_
  · have hg1 : TriQ Try.prog 51 #[.pointer (some ⟨(ρ p.id).b, 0, none⟩)] (NC ρ g.nodes) (.bool p.gone) := goneN_tri hp
    have hg2 : TriQ Try.prog 51 #[.pointer (some ⟨(ρ b.id).b, 0, none⟩)] (NC ρ g.nodes) (.bool b.gone) := goneN_tri hb
    by_cases hf : firstB p b asked
    · rw [decide_eq_true hf] at hc8
      subst hc8
      cases hgp : p.gone with
      | true =>
        rw [hgp] at hg1
        ((apply sc_region); (refine mv_ ?_); (refine se_ (ex_not ev_) ?_); (refine mv_ ?_); (refine wt_ ?_); (refine mv_ ?_); (refine wt_ ?_); (refine mv_ ?_); (refine wt_ ?_); (apply so_callq; (exact ev_); (focus ((apply EvL.cons; (exact ev_)); exact EvL.nil)); (focus (repeat (first | exact App.nil | apply App.cons))); assumption; exact hg1; (exact sel_); exact rfl); (refine se_ (ex_pick_f ev_ ev_) ?_); (refine mv_ ?_); (refine sk_ ?_); (refine sk_ ?_); (refine sk_ ?_); (refine se_ (ex_pick_t ev_ .const) ?_); (apply so_nil); (apply And.intro rfl; refine ⟨⟨_, ?_, at_⟩, at_, at_, at_, at_, rfl⟩; (focus (simp [*]; done))))
      | false =>
        rw [hgp] at hg1
        cases hgb : b.gone with
        | true =>
          rw [hgb] at hg2
          ((apply sc_region); (refine mv_ ?_); (refine se_ (ex_not ev_) ?_); (refine mv_ ?_); (refine wt_ ?_); (refine mv_ ?_); (refine wt_ ?_); (refine mv_ ?_); (refine wt_ ?_); (apply so_callq; (exact ev_); (focus ((apply EvL.cons; (exact ev_)); exact EvL.nil)); (focus (repeat (first | exact App.nil | apply App.cons))); assumption; exact hg1; (exact sel_); exact rfl); (refine se_ (ex_pick_f ev_ ev_) ?_); (refine mv_ ?_); (refine wt_ ?_); (refine mv_ ?_); (refine wt_ ?_); (refine mv_ ?_); (refine wt_ ?_); (apply so_callq; (exact ev_); (focus ((apply EvL.cons; (exact ev_)); exact EvL.nil)); (focus (repeat (first | exact App.nil | apply App.cons))); assumption; exact hg2; (exact sel_); exact rfl); (refine se_ (ex_pick_f ev_ ev_) ?_); (apply so_nil); (apply And.intro rfl; refine ⟨⟨_, ?_, at_⟩, at_, at_, at_, at_, rfl⟩; (focus (simp [*]; done))))
        | false =>
          rw [hgb] at hg2
          ((apply sc_region); (refine mv_ ?_); (refine se_ (ex_not ev_) ?_); (refine mv_ ?_); (refine wt_ ?_); (refine mv_ ?_); (refine wt_ ?_); (refine mv_ ?_); (refine wt_ ?_); (apply so_callq; (exact ev_); (focus ((apply EvL.cons; (exact ev_)); exact EvL.nil)); (focus (repeat (first | exact App.nil | apply App.cons))); assumption; exact hg1; (exact sel_); exact rfl); (refine se_ (ex_pick_f ev_ ev_) ?_); (refine mv_ ?_); (refine wt_ ?_); (refine mv_ ?_); (refine wt_ ?_); (refine mv_ ?_); (refine wt_ ?_); (apply so_callq; (exact ev_); (focus ((apply EvL.cons; (exact ev_)); exact EvL.nil)); (focus (repeat (first | exact App.nil | apply App.cons))); assumption; exact hg2; (exact sel_); exact rfl); (refine se_ (ex_pick_f ev_ ev_) ?_); (apply so_nil); (apply And.intro rfl; refine ⟨⟨_, ?_, at_⟩, at_, at_, at_, at_, rfl⟩; (focus (simp [*]; done))))
    · rw [decide_eq_false hf] at hc8
      subst hc8
      ((apply sc_region); (refine mv_ ?_); (refine se_ (ex_not ev_) ?_); (refine mv_ ?_); (refine sk_ ?_); (refine sk_ ?_); (refine sk_ ?_); (refine se_ (ex_pick_t ev_ .const) ?_); (refine mv_ ?_); (refine sk_ ?_); (refine sk_ ?_); (refine sk_ ?_); (refine se_ (ex_pick_t ev_ .const) ?_); (apply so_nil); (apply And.intro rfl; refine ⟨⟨_, ?_, at_⟩, at_, at_, at_, at_, rfl⟩; (focus (simp [*]; done))))
  clear a0 a1 a6 a7 a8
  rintro u f L ⟨rfl, ⟨c, hc, a70⟩, a0, a1, a6, a7, rfl⟩
  apply nm_then
  by_cases hg : ¬ firstB p b asked ∨ p.gone = true ∨ b.gone = true
  · rw [decide_eq_true hg] at hc
    subst hc
    rw [if_pos hg]
    ((refine ct_ ?_); refine sr_ ?_; (refine ac_ ?_); refine sn_ ?_; (apply sc_ret); (apply rt_then); (apply ret_ok; (focus ((apply Res.tmp; (exact ev_)); exact Res.nil)); (exact ⟨[], .inl ⟨rfl, rfl, rfl⟩, rfl⟩); (exact sel_); (exact appb_)))
  · rw [decide_eq_false hg] at hc
    subst hc
    rw [if_neg hg]
    ((refine cf_ ?_); (apply sc_skip); (apply nm_then); (apply sc_seq); (apply sc_seq))
    refine SC.mono (Q := fun u f L => u = .normal ∧ (∃ c, (c = decide (b.state = 2 ∧ p.reach > b.seq)) ∧ At f 86 (.bool c)) ∧ At f 0 (.pointer (some ⟨(ρ p.id).b, 0, none⟩)) ∧ At f 1 (.pointer (some ⟨(ρ b.id).b, 0, none⟩)) ∧ At f 6 (.slice none 0 0) ∧ At f 7 (.func (.func 51) #[] #[]) ∧ L = NC ρ g.nodes ++ (NM ρ g.nodes ++ R)) ?_ ?_
    · ((apply sc_quiet (id := 5); assumption; kernel_rfl); (refine qe_ (ex_move ev_) ?_); (refine qe_ (ex_nilCheck ev_) ?_); (refine qe_ (ex_fieldAddr ev_ asm_) ?_); (refine qe_ (ex_load1 ev_ asm_ mem_ nth_) ?_); (apply sq_split; (apply ex_eql; (exact ev_); ((exact Ev.const))); exact rfl; refine ⟨fun _ => ?_, fun _ => ?_⟩); (refine qe_ (ex_move ev_) ?_); (refine qw_ ?_); (refine qe_ (ex_move ev_) ?_); (refine qw_ ?_); (refine qe_ (ex_nilCheck ev_) ?_); (refine qw_ ?_); (refine qe_ (ex_fieldAddr ev_ asm_) ?_); (refine qw_ ?_); (refine qe_ (ex_load1 ev_ asm_ mem_ nth_) ?_); (refine qw_ ?_); (refine qe_ (ex_move ev_) ?_); (refine qw_ ?_); (refine qe_ (ex_nilCheck ev_) ?_); (refine qw_ ?_); (refine qe_ (ex_fieldAddr ev_ asm_) ?_); (refine qw_ ?_); (refine qe_ (ex_load1 ev_ asm_ mem_ nth_) ?_); (refine qw_ ?_); (apply sq_split; (apply ex_gtr; (exact ev_); (exact ev_)); exact rfl; refine ⟨fun _ => ?_, fun _ => ?_⟩); (refine qe_ (ex_pick_t ev_ ev_) ?_); (apply sq_nil); (apply And.intro rfl; refine ⟨⟨_, ?_, at_⟩, at_, at_, at_, at_, rfl⟩; (focus (simp [*]; done))); (refine qe_ (ex_pick_t ev_ ev_) ?_); (apply sq_nil); (apply And.intro rfl; refine ⟨⟨_, ?_, at_⟩, at_, at_, at_, at_, rfl⟩; (focus (simp [*]; done))); (refine qe_ (ex_move ev_) ?_); (refine qs_ ?_); (refine qs_ ?_); (refine qs_ ?_); (refine qs_ ?_); (refine qs_ ?_); (refine qs_ ?_); (refine qs_ ?_); (refine qs_ ?_); (refine qs_ ?_); (refine qe_ (ex_pick_f ev_ .const) ?_); (apply sq_nil); (apply And.intro rfl; refine ⟨⟨_, ?_, at_⟩, at_, at_, at_, at_, rfl⟩; (focus (simp [*]; done))))
    clear a0 a1 a6 a7 a70
    rintro u f L ⟨rfl, ⟨c, hc, a86⟩, a0, a1, a6, a7, rfl⟩
    apply nm_then
    refine SC.mono (Q := fun u f L => u = .normal ∧ At f 0 (.pointer (some ⟨(ρ p.id).b, 0, none⟩)) ∧ At f 1 (.pointer (some ⟨(ρ b.id).b, 0, none⟩)) ∧ At f 7 (.func (.func 51) #[] #[]) ∧ ∃ v B, SlS ρ (from0 p b) v B ∧ At f 6 v ∧ Held L (B ++ (NC ρ g.nodes ++ NM ρ g.nodes)) R) ?_ ?_
    · unfold from0
      by_cases hc1 : b.state = 2 ∧ p.reach > b.seq
      · rw [decide_eq_true hc1] at hc
        subst hc
        rw [if_pos hc1]
        ((refine ct_ ?_); (apply sc_region); (refine mv_ ?_); (refine mv_ ?_); (refine mv_ ?_); (apply so_ex; (apply ex_build; ((focus ((apply EvP.cons; (exact ev_)); (apply EvP.cons; (exact ev_)); exact EvP.nil))); assumption; ((focus (repeat (first | exact Bld.nil (by assumption) | (apply Bld.cons; assumption; exact rfl; exact rfl; (focus (repeat (first | exact SetSub.nil | apply SetSub.take | apply SetSub.drop))))))))); exact rfl); (apply so_buildS; (focus ((apply EvP.cons; (exact ev_)); exact EvP.nil)); assumption; assumption; assumption; (focus (repeat (first | exact SeqP.nil | (apply SeqP.cons; exact rfl; exact rfl) | exact App.nil | apply App.cons))); exact rfl; exact rfl; exact rfl; intro _); (apply so_app0; (exact ev_); (exact ev_); (exact mem_); assumption; assumption; assumption; exact rfl; assumption; exact rfl; exact rfl; (first | assumption | omega | decide); (first | assumption | omega | decide); exact rfl; exact rfl; exact rfl; intro _ _ _ _); (refine asg_ ?_); (apply so_nil))
        rename_i b1 bb cap junk hj
        refine ⟨rfl, at_, at_, at_, _, [(bb, .cells ([(none, p.id, some b.id)].flatMap (s3cells ρ) ++ junk).toArray 79)], .inr ⟨bb, cap, junk, by simp, rfl, hj, rfl⟩, at_, ?_⟩
        simp only [List.cons_append, List.nil_append]
        exact held_
      · rw [decide_eq_false hc1] at hc
        subst hc
        rw [if_neg hc1]
        ((refine cf_ ?_); (apply sc_skip))
        refine ⟨rfl, at_, at_, at_, _, [], .inl ⟨rfl, rfl, rfl⟩, at_, ?_⟩
        simp only [List.cons_append, List.nil_append]
        exact held_
    clear a0 a1 a6 a7 a86
    rintro u f L ⟨rfl, a0, a1, a7, v4, B4, hS, a6, ⟨G, hG⟩⟩
    apply nm_then
    refine sc_perm hG ?_
    simp only [List.append_assoc]
    ((apply sc_seq); (apply sc_seq))
    refine SC.mono (Q := fun u f L => u = .normal ∧ At f 0 (.pointer (some ⟨(ρ p.id).b, 0, none⟩)) ∧ At f 1 (.pointer (some ⟨(ρ b.id).b, 0, none⟩)) ∧ At f 7 (.func (.func 51) #[] #[]) ∧ At f 6 v4 ∧ At f 98 (.int .i64 ((sortI p.ins).length : Int)) ∧ At f 99 (.int .i64 0) ∧
      ∃ v5 B5, SlI (sortI p.ins) v5 B5 ∧ At f 97 v5 ∧ Held L (B5 ++ (B4 ++ (NC ρ g.nodes ++ NM ρ g.nodes))) R) ?_ ?_
    · by_cases hp2 : p.state = 2
      · have hpe : p ∈ g.ended := (List.mem_append.1 hp).resolve_left fun h => hI.lv p h hp2
        have ho : p.ins = [] := (hI.em p hpe).1
        rw [show mvN p (ρ p.id).mi = .map none from by unfold mvN; rw [if_pos hp2]] at hpc
        rw [ho]
        ((apply sc_region); (refine mv_ ?_); (refine se_ (ex_nilCheck ev_) ?_); (refine se_ (ex_fieldAddr ev_ asm_) ?_); (apply so_ex; (apply ex_load1; (exact ev_); assumption; (repeat (first | exact List.mem_append_left _ hpc | apply List.mem_append_right)); (exact nth_)); exact rfl); (apply so_callq; (exact Ev.func); (focus ((apply EvL.cons; (exact ev_)); exact EvL.nil)); (focus (repeat (first | exact App.nil | apply App.cons))); assumption; exact keysNil_tri; (exact sel_); exact rfl); (refine se_ (ex_len_slice ev_ asm_) ?_); (refine se_ (ex_move .const) ?_); (apply so_nil))
        refine ⟨rfl, at_, at_, at_, at_, at_, at_, _, [], .inl ⟨rfl, rfl, rfl⟩, at_, ?_⟩
        simp only [List.nil_append]
        exact held_
      · have hpl : p ∈ g.live := (List.mem_append.1 hp).resolve_right fun h => hp2 (hI.en p h)
        rw [show mvN p (ρ p.id).mi = .map (some (ρ p.id).mi) from by unfold mvN; rw [if_neg hp2]] at hpc
        have hks := keysK_tri hI (hI.mi p hpl) (fun k hk => (hI.ci p hpl k hk).2) (nb_ins (ρ := ρ) hp hp2)
        ((apply sc_region); (refine mv_ ?_); (refine se_ (ex_nilCheck ev_) ?_); (refine se_ (ex_fieldAddr ev_ asm_) ?_); (apply so_ex; (apply ex_load1; (exact ev_); assumption; (repeat (first | exact List.mem_append_left _ hpc | apply List.mem_append_right)); (exact nth_)); exact rfl))
        (apply so_call; (exact Ev.func); (focus ((apply EvL.cons; (exact ev_)); exact EvL.nil)); (focus (repeat (first | exact App.nil | apply App.cons))); assumption; (exact hks); (exact sel_); exact rfl)
        rintro v L ⟨B5, hB5, rfl⟩
        simp only [List.append_assoc]
        obtain ⟨po, cap, hv⟩ := hB5.form
        subst hv
        ((refine se_ (ex_len_slice ev_ asm_) ?_); (refine se_ (ex_move .const) ?_); (apply so_nil))
        refine ⟨rfl, at_, at_, at_, at_, at_, at_, _, B5, hB5, at_, ?_⟩
        exact held_
    clear hG a0 a1 a6 a7
    rintro u f L ⟨rfl, a0, a1, a7, a6, a98, a99, v5, B5, hB5, a97, ⟨G, hG⟩⟩
    apply nm_then
    refine sc_perm hG ?_
    simp only [List.append_assoc]
    obtain ⟨po, cap5, rfl⟩ := hB5.form
    ((apply sc_block))
    have hlen : (sortI p.ins).length ≤ 4000 := by
      rw [(sortI_perm p.ins).length_eq]
      by_cases hp2 : p.state = 2
      · rw [(hI.em p ((List.mem_append.1 hp).resolve_left fun h => hI.lv p h hp2)).1]; exact Nat.zero_le _
      · have hpl : p ∈ g.live := (List.mem_append.1 hp).resolve_right fun h => hp2 (hI.en p h)
        have := (hI.mi p hpl).keys
        rw [klist_keys] at this
        exact klist_len hI this fun k hk => (hI.ci p hpl k hk).2
    refine sc_loop (fun k f L => ∃ i : Nat, k = (sortI p.ins).length - i ∧ i ≤ (sortI p.ins).length ∧ At f 0 (.pointer (some ⟨(ρ p.id).b, 0, none⟩)) ∧ At f 1 (.pointer (some ⟨(ρ b.id).b, 0, none⟩)) ∧ At f 7 (.func (.func 51) #[] #[]) ∧ At f 97 (.slice po (sortI p.ins).length cap5) ∧ At f 98 (.int .i64 ((sortI p.ins).length : Int)) ∧ At f 99 (.int .i64 (i : Int)) ∧
      ∃ v B, SlS ρ (from0 p b ++ ((sortI p.ins).take i).filterMap (fromK g.nodes p b)) v B ∧ At f 6 v ∧ Held L (B5 ++ (B ++ (NC ρ g.nodes ++ NM ρ g.nodes))) R)
      _ ⟨0, rfl, Nat.zero_le _, at_, at_, at_, at_, at_, at_, v4, B4, by rw [List.take_zero, List.filterMap_nil, List.append_nil]; exact hS, at_, held_⟩ ?_
    clear hG hS a0 a1 a6 a7 a97 a98 a99
    rintro k f L ⟨i, hk, hi, a0, a1, a7, a97, a98, a99, v, B, hS, a6, ⟨G, hG⟩⟩
    refine sc_perm hG ?_
    simp only [List.append_assoc]
    by_cases hlt : i < (sortI p.ins).length
    · have hlt' : (i : Int) < ((sortI p.ins).length : Int) := by omega
      have hne : p.ins ≠ [] := fun h => by rw [h] at hlt; exact absurd hlt (Nat.not_lt_zero _)
      have hp2 : p.state ≠ 2 := fun h => hne (hI.em p ((List.mem_append.1 hp).resolve_left fun h2 => hI.lv p h2 h)).1
      have hpl : p ∈ g.live := (List.mem_append.1 hp).resolve_right fun h => hp2 (hI.en p h)
      rw [show mvN p (ρ p.id).mi = .map (some (ρ p.id).mi) from by unfold mvN; rw [if_neg hp2]] at hpc
      have hpm := nb_ins (ρ := ρ) hp hp2
      have hM := hI.mi p hpl
      have hko : (sortI p.ins)[i] ∈ p.ins := (sortI_perm p.ins).mem_iff.1 (List.getElem_mem hlt)
      obtain ⟨nk, hnk, hid⟩ := (hI.ci p hpl _ hko).2
      have hnn : nk ∈ g.nodes := List.mem_append_left _ hnk
      have hnc := nb_cell (ρ := ρ) hnn
      simp only [ncell, Nd.cells] at hnc
      have hlook : (lookV (klist ρ p.ins) (sortI p.ins)[i]).getD (.pointer none) = .pointer (some ⟨(ρ nk.id).b, 0, none⟩) := by
        rw [lookV_klist, if_pos hko, hid]; rfl
      rcases hB5 with ⟨h0, _⟩ | ⟨b5, cap6, junk5, h0, hv5, hj5, rfl⟩
      · rw [h0] at hlt; exact absurd hlt (Nat.not_lt_zero _)
      injection hv5 with hv5 _ _
      subst hv5
      simp only [List.cons_append, List.nil_append]
      have hz := zs_nth (junk := junk5) hlt
      have htk := take_fm (sortI p.ins) (fromK g.nodes p b) hlt
      generalize hkk : (sortI p.ins)[i] = kk at *
      subst hid
      have e1 : ((i + 1 : Nat) : Int) = (i : Int) + 1 := by omega
      have hgn : TriQ Try.prog 51 #[.pointer (some ⟨(ρ nk.id).b, 0, none⟩)] (NC ρ g.nodes) (.bool nk.gone) := goneN_tri hnn
      have hfn : TriQ Try.prog 38 #[.pointer (some ⟨(ρ nk.id).b, 0, none⟩)] (NC ρ g.nodes) (.int .i64 nk.far) := farN_tri hnn (hI.rg nk hnn) hI.sz.2.2.2
      ((apply sc_seq); ((fail_if_success (apply sc_region (id := 11))); apply sc_region); (refine se_ (ex_lss_t ev_ ev_ om_) ?_); refine sn_ ?_; (apply sc_seq); (refine ct_ ?_); (apply sc_skip); (apply nm_then); (apply sc_seq); (apply sc_block); (apply sc_seq); ((fail_if_success (apply sc_region (id := 11))); apply sc_region); (refine se_ (ex_indexAddr ev_ ev_ asm_ asm_ lit_ lt_) ?_); (apply so_ex; (apply ex_load1r; (exact ev_); assumption; (exact mem_); exact hz); exact rfl); (refine asg_ ?_); refine sn_ ?_; (apply sc_seq); ((fail_if_success (apply sc_region (id := 11))); apply sc_region); (refine mv_ ?_); (refine se_ (ex_nilCheck ev_) ?_); (refine se_ (ex_fieldAddr ev_ asm_) ?_); (apply so_ex; (apply ex_load1; (exact ev_); assumption; (repeat (first | exact List.mem_append_left _ hpc | apply List.Mem.tail | apply List.mem_append_right)); (exact nth_)); exact rfl); (refine mv_ ?_); (apply so_ex; (apply ex_look; (exact ev_); (exact mem_); assumption; (exact ev_); (first | exact keyEq .. | exact rfl); assumption; assumption; assumption; (first | exact lookEq .. | exact lookEq3 .. | exact lookEq4 .. | assumption | exact rfl)); exact rfl); (refine asg_ ?_); refine sn_ ?_; (apply sc_seq); (apply sc_seq))
      refine SC.mono (Q := fun u f L => u = .normal ∧ (∃ c, (c = decide (nk.gone = true ∨ (nk.ro = true ∧ ¬ (b.state = 2 ∧ b.seq < nk.far)))) ∧ At f 134 (.bool c)) ∧ At f 0 (.pointer (some ⟨(ρ p.id).b, 0, none⟩)) ∧ At f 1 (.pointer (some ⟨(ρ b.id).b, 0, none⟩)) ∧ At f 7 (.func (.func 51) #[] #[]) ∧ At f 97 (.slice (some ⟨b5, 0, none⟩) (sortI p.ins).length cap5) ∧ At f 98 (.int .i64 ((sortI p.ins).length : Int)) ∧ At f 99 (.int .i64 (i : Int)) ∧ At f 6 v ∧ At f 11 (.pointer (some ⟨(ρ nk.id).b, 0, none⟩)) ∧
        L = (b5, .cells ((sortI p.ins).map (Value.int .i64) ++ junk5).toArray 3) :: (B ++ (NC ρ g.nodes ++ (NM ρ g.nodes ++ (G ++ R))))) ?_ ?_
      · cases hgo : nk.gone with
        | true =>
          rw [hgo] at hgn
          ((apply sc_quiet (id := 11); assumption; kernel_rfl); (refine qe_ (ex_move ev_) ?_); (refine qe_ (ex_move ev_) ?_); (apply sq_call; (exact ev_); (focus ((apply EvL.cons; (exact ev_)); exact EvL.nil)); (focus (repeat (first | exact App.nil | apply App.cons))); assumption; exact hgn; (exact sel_); exact rfl); (refine qe_ (ex_move ev_) ?_); (refine qs_ ?_); (refine qs_ ?_); (refine qs_ ?_); (refine qs_ ?_); (refine qs_ ?_); (refine qu_ ?_); (refine qu_ ?_); (refine qu_ ?_); (refine qu_ ?_); (refine qu_ ?_); (refine qu_ ?_); (refine qu_ ?_); (refine qu_ ?_); (refine qu_ ?_); (refine qu_ ?_); (refine qu_ ?_); (refine qu_ ?_); (refine qu_ ?_); (refine qu_ ?_); (refine qu_ ?_); (refine qs_ ?_); (refine qe_ (ex_pick_t ev_ .const) ?_); (apply sq_nil); (apply And.intro rfl; refine ⟨⟨_, ?_, at_⟩, at_, at_, at_, at_, at_, at_, at_, at_, rfl⟩; (focus (simp [*]; done))))
        | false =>
          rw [hgo] at hgn
          cases hro : nk.ro with
          | true =>
            rw [hro] at hnc
            ((apply sc_quiet (id := 11); assumption; kernel_rfl); (refine qe_ (ex_move ev_) ?_); (refine qe_ (ex_move ev_) ?_); (apply sq_call; (exact ev_); (focus ((apply EvL.cons; (exact ev_)); exact EvL.nil)); (focus (repeat (first | exact App.nil | apply App.cons))); assumption; exact hgn; (exact sel_); exact rfl); (refine qe_ (ex_move ev_) ?_); (refine qw_ ?_); (refine qe_ (ex_move ev_) ?_); (refine qw_ ?_); (refine qe_ (ex_nilCheck ev_) ?_); (refine qw_ ?_); (refine qe_ (ex_fieldAddr ev_ asm_) ?_); (refine qw_ ?_); (refine qe_ (ex_load1 ev_ asm_ mem_ nth_) ?_); (refine qw_ ?_); (refine qe_ (ex_move ev_) ?_); (refine qw_ ?_); (refine qe_ (ex_move ev_) ?_); (refine qw_ ?_); (refine qe_ (ex_nilCheck ev_) ?_); (refine qw_ ?_); (refine qe_ (ex_fieldAddr ev_ asm_) ?_); (refine qw_ ?_); (refine qe_ (ex_load1 ev_ asm_ mem_ nth_) ?_); (refine qw_ ?_); (apply sq_split; (apply ex_eql; (exact ev_); ((exact Ev.const))); exact rfl; refine ⟨fun _ => ?_, fun _ => ?_⟩); (refine qw_ ?_); (refine qe_ (ex_move ev_) ?_); (refine qw_ ?_); (refine qe_ (ex_move ev_) ?_); (refine qw_ ?_); (refine qe_ (ex_nilCheck ev_) ?_); (refine qw_ ?_); (refine qe_ (ex_fieldAddr ev_ asm_) ?_); (refine qw_ ?_); (refine qe_ (ex_load1 ev_ asm_ mem_ nth_) ?_); (refine qw_ ?_); (refine qe_ (ex_move ev_) ?_); (refine qw_ ?_); (apply sq_call; (exact Ev.func); (focus ((apply EvL.cons; (exact ev_)); exact EvL.nil)); (focus (repeat (first | exact App.nil | apply App.cons))); assumption; exact hfn; (exact sel_); exact rfl); (refine qw_ ?_); (apply sq_split; (apply ex_lss; (exact ev_); (exact ev_)); exact rfl; refine ⟨fun _ => ?_, fun _ => ?_⟩); (refine qw_ ?_); (refine qe_ (ex_pick_t ev_ ev_) ?_); (refine qw_ ?_); (refine qe_ (ex_not ev_) ?_); (refine qw_ ?_); (refine qe_ (ex_pick_t ev_ ev_) ?_); (refine qe_ (ex_pick_f ev_ ev_) ?_); (apply sq_nil); (apply And.intro rfl; refine ⟨⟨_, ?_, at_⟩, at_, at_, at_, at_, at_, at_, at_, at_, rfl⟩; (focus (simp [*]; done))); (refine qw_ ?_); (refine qe_ (ex_pick_t ev_ ev_) ?_); (refine qw_ ?_); (refine qe_ (ex_not ev_) ?_); (refine qw_ ?_); (refine qe_ (ex_pick_t ev_ ev_) ?_); (refine qe_ (ex_pick_f ev_ ev_) ?_); (apply sq_nil); (apply And.intro rfl; refine ⟨⟨_, ?_, at_⟩, at_, at_, at_, at_, at_, at_, at_, at_, rfl⟩; (focus (simp [*]; done))); (refine qw_ ?_); (refine qe_ (ex_move ev_) ?_); (refine qs_ ?_); (refine qs_ ?_); (refine qs_ ?_); (refine qs_ ?_); (refine qs_ ?_); (refine qs_ ?_); (refine qs_ ?_); (refine qw_ ?_); (refine qe_ (ex_pick_f ev_ .const) ?_); (refine qw_ ?_); (refine qe_ (ex_not ev_) ?_); (refine qw_ ?_); (refine qe_ (ex_pick_t ev_ ev_) ?_); (refine qe_ (ex_pick_f ev_ ev_) ?_); (apply sq_nil); (apply And.intro rfl; refine ⟨⟨_, ?_, at_⟩, at_, at_, at_, at_, at_, at_, at_, at_, rfl⟩; (focus (simp [*]; done))))
          | false =>
            rw [hro] at hnc
            ((apply sc_quiet (id := 11); assumption; kernel_rfl); (refine qe_ (ex_move ev_) ?_); (refine qe_ (ex_move ev_) ?_); (apply sq_call; (exact ev_); (focus ((apply EvL.cons; (exact ev_)); exact EvL.nil)); (focus (repeat (first | exact App.nil | apply App.cons))); assumption; exact hgn; (exact sel_); exact rfl); (refine qe_ (ex_move ev_) ?_); (refine qw_ ?_); (refine qe_ (ex_move ev_) ?_); (refine qw_ ?_); (refine qe_ (ex_nilCheck ev_) ?_); (refine qw_ ?_); (refine qe_ (ex_fieldAddr ev_ asm_) ?_); (refine qw_ ?_); (refine qe_ (ex_load1 ev_ asm_ mem_ nth_) ?_); (refine qw_ ?_); (refine qe_ (ex_move ev_) ?_); (refine qs_ ?_); (refine qs_ ?_); (refine qs_ ?_); (refine qs_ ?_); (refine qs_ ?_); (refine qs_ ?_); (refine qu_ ?_); (refine qu_ ?_); (refine qu_ ?_); (refine qu_ ?_); (refine qu_ ?_); (refine qu_ ?_); (refine qu_ ?_); (refine qs_ ?_); (refine qs_ ?_); (refine qw_ ?_); (refine qe_ (ex_pick_f ev_ .const) ?_); (refine qe_ (ex_pick_f ev_ ev_) ?_); (apply sq_nil); (apply And.intro rfl; refine ⟨⟨_, ?_, at_⟩, at_, at_, at_, at_, at_, at_, at_, at_, rfl⟩; (focus (simp [*]; done))))
      clear a0 a1 a7 a97 a98 a99 a6
      rintro u f L ⟨rfl, ⟨c, hc, a134⟩, a0, a1, a7, a97, a98, a99, a6, a11, rfl⟩
      apply nm_then
      have hff : findL g.nodes nk.id = some nk := findL_mem hI.nd hnn
      by_cases hcn : nk.gone = true ∨ (nk.ro = true ∧ ¬ (b.state = 2 ∧ b.seq < nk.far))
      · rw [decide_eq_true hcn] at hc
        subst hc
        have hik : fromK g.nodes p b nk.id = none := by unfold fromK; rw [hff]; dsimp only; rw [if_pos hcn]
        rw [hik, Option.toList_none, List.append_nil] at htk
        ((refine ct_ ?_); (apply sc_exit); (apply et_then); (apply et_hit); (apply nm_then); (apply sc_region); (refine se_ (ex_add ev_ .const wr_) ?_); (refine mv_ ?_); (apply so_nil); (apply nm_then))
        refine ⟨(sortI p.ins).length - (i + 1), by omega, i + 1, rfl, by omega, at_, at_, at_, at_, at_, by rw [e1]; exact at_, v, B, by rw [htk]; exact hS, at_, held_⟩
      · rw [decide_eq_false hcn] at hc
        subst hc
        have hik : fromK g.nodes p b nk.id = some (some nk.id, p.id, some b.id) := by unfold fromK; rw [hff]; dsimp only; rw [if_neg hcn]
        rw [hik, Option.toList_some] at htk
        rcases hS with ⟨h1, h2, h3⟩ | ⟨b4, cap4, junk4, h1, h2, h3, h4⟩
        · subst h2 h3
          simp only [List.nil_append]
          ((refine cf_ ?_); (apply sc_skip); (apply nm_then); (apply sc_region); (refine mv_ ?_); (refine mv_ ?_); (refine mv_ ?_); (refine mv_ ?_); (apply so_ex; (apply ex_build; ((focus ((apply EvP.cons; (exact ev_)); (apply EvP.cons; (exact ev_)); (apply EvP.cons; (exact ev_)); exact EvP.nil))); assumption; ((focus (repeat (first | exact Bld.nil (by assumption) | (apply Bld.cons; assumption; exact rfl; exact rfl; (focus (repeat (first | exact SetSub.nil | apply SetSub.take | apply SetSub.drop))))))))); exact rfl); (apply so_buildS; (focus ((apply EvP.cons; (exact ev_)); exact EvP.nil)); assumption; assumption; assumption; (focus (repeat (first | exact SeqP.nil | (apply SeqP.cons; exact rfl; exact rfl) | exact App.nil | apply App.cons))); exact rfl; exact rfl; exact rfl; intro _); (apply so_app0; (exact ev_); (exact ev_); (exact mem_); assumption; assumption; assumption; exact rfl; assumption; exact rfl; exact rfl; (first | assumption | omega | decide); (first | assumption | omega | decide); exact rfl; exact rfl; exact rfl; intro _ _ _ _); (refine asg_ ?_); (apply so_nil); (apply nm_block); (apply nm_then); (apply sc_region); (refine se_ (ex_add ev_ .const wr_) ?_); (refine mv_ ?_); (apply so_nil); (apply nm_then))
          rename_i b1 bb cap junk hj
          refine ⟨(sortI p.ins).length - (i + 1), by omega, i + 1, rfl, by omega, at_, at_, at_, at_, at_, by rw [e1]; exact at_, .slice (some ⟨bb, 0, none⟩) 1 cap, [(bb, .cells ([(some nk.id, p.id, some b.id)].flatMap (s3cells ρ) ++ junk).toArray 79)], ?_, ?_, ?_⟩
          · rw [htk, ← List.append_assoc, h1, List.nil_append]
            exact .inr ⟨bb, cap, junk, by simp, rfl, hj, rfl⟩
          · exact at_
          · simp only [List.cons_append, List.nil_append, List.flatMap_cons, List.flatMap_nil, List.append_nil]
            exact held_
        · subst h2 h4
          simp only [List.cons_append, List.nil_append]
          have hxl := s3_len ρ (from0 p b ++ ((sortI p.ins).take i).filterMap (fromK g.nodes p b))
          have hbl : (from0 p b ++ ((sortI p.ins).take i).filterMap (fromK g.nodes p b)).length ≤ 4001 := by
            have h5 := List.length_filterMap_le (fromK g.nodes p b) ((sortI p.ins).take i)
            have h6 : (from0 p b).length ≤ 1 := by unfold from0; split <;> simp
            rw [List.length_append]
            rw [List.length_take] at h5
            omega
          generalize hgS : from0 p b ++ ((sortI p.ins).take i).filterMap (fromK g.nodes p b) = S at *
          have htk2 : from0 p b ++ ((sortI p.ins).take (i + 1)).filterMap (fromK g.nodes p b) = S ++ [(some nk.id, p.id, some b.id)] := by rw [htk, ← List.append_assoc, hgS]
          ((refine cf_ ?_); (apply sc_skip); (apply nm_then); (apply sc_region); (refine mv_ ?_); (refine mv_ ?_); (refine mv_ ?_); (refine mv_ ?_); (apply so_ex; (apply ex_build; ((focus ((apply EvP.cons; (exact ev_)); (apply EvP.cons; (exact ev_)); (apply EvP.cons; (exact ev_)); exact EvP.nil))); assumption; ((focus (repeat (first | exact Bld.nil (by assumption) | (apply Bld.cons; assumption; exact rfl; exact rfl; (focus (repeat (first | exact SetSub.nil | apply SetSub.take | apply SetSub.drop))))))))); exact rfl); (apply so_buildS; (focus ((apply EvP.cons; (exact ev_)); exact EvP.nil)); assumption; assumption; assumption; (focus (repeat (first | exact SeqP.nil | (apply SeqP.cons; exact rfl; exact rfl) | exact App.nil | apply App.cons))); exact rfl; exact rfl; exact rfl; intro _); (apply so_app1; (exact ev_); (exact ev_); (exact pick_); (exact mem_); assumption; assumption; assumption; assumption; assumption; exact rfl; assumption; exact rfl; exact rfl; (first | assumption | omega | decide); (first | assumption | omega | decide); exact rfl; exact rfl; exact rfl; intro _ _ _ _ _); (refine asg_ ?_); (apply so_nil); (apply nm_block); (apply nm_then); (apply sc_region); (refine se_ (ex_add ev_ .const wr_) ?_); (refine mv_ ?_); (apply so_nil); (apply nm_then))
          rename_i b1 bb cap junk hj hj2
          have e2 : (S ++ [(some nk.id, p.id, some b.id)]).flatMap (s3cells ρ) = S.flatMap (s3cells ρ) ++ [.pointer (some ⟨(ρ nk.id).b, 0, none⟩), .pointer (some ⟨(ρ p.id).b, 0, none⟩), .pointer (some ⟨(ρ b.id).b, 0, none⟩)] := by
            rw [List.flatMap_append]; rfl
          have e3 : (S ++ [(some nk.id, p.id, some b.id)]).length = S.length + 1 := by simp
          refine ⟨(sortI p.ins).length - (i + 1), by omega, i + 1, rfl, by omega, at_, at_, at_, at_, at_, by rw [e1]; exact at_, .slice (some ⟨bb, 0, none⟩) (S.length + 1) cap, [(bb, .cells ((S ++ [(some nk.id, p.id, some b.id)]).flatMap (s3cells ρ) ++ junk).toArray 79)], ?_, ?_, ?_⟩
          · rw [htk2]
            exact .inr ⟨bb, cap, junk, by simp, by rw [e3], by rw [e2]; exact hj, rfl⟩
          · exact at_
          · rw [e2]
            simp only [List.cons_append, List.nil_append]
            exact held_
    · have hlt' : ¬ (i : Int) < ((sortI p.ins).length : Int) := by omega
      obtain rfl : i = (sortI p.ins).length := by omega
      rw [List.take_length] at hS
      (refine sr_ ?_; (refine se_ (ex_lss_f ev_ ev_ om_) ?_); refine sn_ ?_; (apply sc_seq); (refine cf_ ?_); (apply sc_exit); (apply et_then); (apply et_then); (apply et_hit); (apply nm_then); refine sr_ ?_; (refine mv_ ?_); (refine asg_ ?_); refine sn_ ?_; (apply sc_ret); (apply ret_ok; (focus ((apply Res.tmp; (exact ev_)); exact Res.nil)); (exact ⟨B, hS, rfl⟩); (exact sel_); (exact appb_)))
end Go.Proofs.Ytomgkmoecbnddaa
