/- Conflict: find. -/
import Derived.Test.YtomgkmoecbnddaaP3
set_option linter.unusedVariables false
set_option linter.unusedSimpArgs false
set_option linter.unnecessarySimpa false
namespace Go.Proofs.Ytomgkmoecbnddaa
open Go.Sym

/-- the blocks of a graph: its cells, the map of the unfinished and the map of the committed transactions -/
def gBlk (p lm em : Nat) (most cm : Int) (esl ese : Array MapEntry) (cl ce : Nat) : List Blk :=
  [(p, .cells [Value.int .i64 most, .int .i64 cm, .map (some lm), .map (some em)].toArray 66), (lm, .map esl cl), (em, .map ese ce)]
/-- what find gives -/
def findV (ll le : List (Int × Value)) (tx : Int) : Value := ((lookV ll tx).or (lookV le tx)).getD (.pointer none)
theorem find_tri {p lm em : Nat} {most cm : Int} {esl ese : Array MapEntry} {cl ce : Nat} {ll le : List (Int × Value)} (hL : MapOf (Value.int .i64) ll esl cl) (hE : MapOf (Value.int .i64) le ese ce) {tx : Int} (hp : ∀ v, lookV ll tx = some v → ∃ b, v = .pointer (some ⟨b, 0, none⟩)) :
    TriQ Try.prog 30 #[.pointer (some ⟨p, 0, none⟩), .int .i64 tx] (gBlk p lm em most cm esl ese cl ce) (findV ll le tx) := by
  have f_mixed := mixed; have f_fo66_2 := fo66_2; have f_fo66_3 := fo66_3; have f_ty64 := ty64; have f_ty69 := ty69; have f_un_34 : Und Try.prog 34 _ := ⟨Try.underlying34⟩; have f_un_64 : Und Try.prog 64 _ := ⟨Try.underlying64⟩; have f_un_69 : Und Try.prog 69 _ := ⟨Try.underlying69⟩; have f_zero69 := zero69; have f_zv69 := zv69
  have f_kl := KL3
  refine tri_intro (args := [_, _]) Try.func30 rfl Try.ntmps30 rfl (rs := _) rfl rfl fun E R => ?_
  simp only [fr, gBlk, List.cons_append, List.nil_append]
  unfold findV
  cases h : lookV ll tx with
  | some v =>
    obtain ⟨b, rfl⟩ := hp v h
    have f_h : (lookV ll tx).getD (.pointer none) = .pointer (some ⟨b, 0, none⟩) := by rw [h]; rfl
    (refine sr_ ?_; (refine ac_ ?_); refine sn_ ?_; (apply sc_seq); refine sr_ ?_; (refine mv_ ?_); (refine se_ (ex_eqp_f ev_ .const asm_) ?_); refine sn_ ?_; (refine cf_ ?_); (apply sc_skip); (apply nm_then); (apply sc_seq); refine sr_ ?_; (refine mv_ ?_); (refine se_ (ex_nilCheck ev_) ?_); (refine se_ (ex_fieldAddr ev_ asm_) ?_); (refine se_ (ex_load1 ev_ asm_ mem_ nth_) ?_); (refine mv_ ?_); (apply so_ex; (apply ex_look; (exact ev_); (exact mem_); assumption; (exact ev_); (first | exact keyEq .. | exact rfl); assumption; assumption; assumption; (first | exact lookEq .. | exact lookEq3 .. | exact lookEq4 .. | assumption | exact rfl)); exact rfl); (refine asg_ ?_); refine sn_ ?_; refine sr_ ?_; (refine mv_ ?_); (refine se_ (ex_nep_t ev_ .const asm_) ?_); refine sn_ ?_; (refine ct_ ?_); refine sr_ ?_; (refine mv_ ?_); (refine asg_ ?_); refine sn_ ?_; (apply sc_ret); (apply rt_then); (apply ret_ok; (focus ((apply Res.tmp; (exact ev_)); exact Res.nil)); (exact ⟨rfl, rfl⟩); (exact sel_); (exact appb_)))
  | none =>
    have f_h : (lookV ll tx).getD (.pointer none) = .pointer none := by rw [h]; rfl
    have f_h2 : (lookV le tx).getD (.pointer none) = ((none : Option Value).or (lookV le tx)).getD (.pointer none) := rfl
    (refine sr_ ?_; (refine ac_ ?_); refine sn_ ?_; (apply sc_seq); refine sr_ ?_; (refine mv_ ?_); (refine se_ (ex_eqp_f ev_ .const asm_) ?_); refine sn_ ?_; (refine cf_ ?_); (apply sc_skip); (apply nm_then); (apply sc_seq); refine sr_ ?_; (refine mv_ ?_); (refine se_ (ex_nilCheck ev_) ?_); (refine se_ (ex_fieldAddr ev_ asm_) ?_); (refine se_ (ex_load1 ev_ asm_ mem_ nth_) ?_); (refine mv_ ?_); (apply so_ex; (apply ex_look; (exact ev_); (exact mem_); assumption; (exact ev_); (first | exact keyEq .. | exact rfl); assumption; assumption; assumption; (first | exact lookEq .. | exact lookEq3 .. | exact lookEq4 .. | assumption | exact rfl)); exact rfl); (refine asg_ ?_); refine sn_ ?_; refine sr_ ?_; (refine mv_ ?_); (refine se_ (ex_nep_f ev_ .const asm_) ?_); refine sn_ ?_; (refine cf_ ?_); (apply sc_skip); (apply nm_then); refine sr_ ?_; (refine mv_ ?_); (refine se_ (ex_nilCheck ev_) ?_); (refine se_ (ex_fieldAddr ev_ asm_) ?_); (refine se_ (ex_load1 ev_ asm_ mem_ nth_) ?_); (refine mv_ ?_); (apply so_ex; (apply ex_look; (exact ev_); (exact mem_); assumption; (exact ev_); (first | exact keyEq .. | exact rfl); assumption; assumption; assumption; (first | exact lookEq .. | exact lookEq3 .. | exact lookEq4 .. | assumption | exact rfl)); exact rfl); (refine asg_ ?_); refine sn_ ?_; (apply sc_ret); (apply ret_ok; (focus ((apply Res.tmp; (exact ev_)); exact Res.nil)); (exact ⟨rfl, rfl⟩); (exact sel_); (exact appb_)))
end Go.Proofs.Ytomgkmoecbnddaa
