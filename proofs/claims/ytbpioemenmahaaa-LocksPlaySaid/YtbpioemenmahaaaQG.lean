/- Locks: masks; keys of a map of ints. Locks: Near: what comes back. Locks: LocksCovers: two reads of one transaction; in plain words. Locks: do: Drop and Read. Locks: what Near gives; Drop and Read as one step. -/
import Derived.Test.YtbpioemenmahaaaQDa
import Derived.Test.YtbpioemenmahaaaQE
set_option linter.unusedVariables false
set_option linter.unusedSimpArgs false
set_option linter.unnecessarySimpa false
namespace Go.Proofs.Ytbpioemenmahaaa
open Go.Sym

theorem and7 (z : Int) : ∃ N : Int, bitsZ .and .i64 z 7 = N ∧ 0 ≤ N ∧ N ≤ 7 := by
  refine ⟨_, rfl, ?_⟩
  have h : (BitVec.ofInt IntKind.i64.bits z &&& BitVec.ofInt IntKind.i64.bits 7).toNat ≤ 7 := by
    rw [BitVec.toNat_and]
    exact Nat.le_trans Nat.and_le_right (by decide)
  unfold bitsZ
  simp only
  rw [wrap_nn (Nat.lt_of_le_of_lt h (by decide))]
  omega
theorem and_bound (z : Int) : ∃ N : Int, bitsZ .and .i64 z 65535 = N ∧ 0 ≤ N ∧ N ≤ 65535 := by
  refine ⟨_, rfl, ?_⟩
  have h : (BitVec.ofInt IntKind.i64.bits z &&& BitVec.ofInt IntKind.i64.bits 65535).toNat ≤ 65535 := by
    rw [BitVec.toNat_and]
    exact Nat.le_trans Nat.and_le_right (by decide)
  unfold bitsZ
  simp only
  rw [wrap_nn (Nat.lt_of_le_of_lt h (by decide))]
  omega
theorem setW_len (ws : List (Int × Int)) (t o : Int) : (setW ws t o).length ≤ ws.length + 1 := by
  unfold setW
  split <;> simp
theorem wv_nodup {ws : List (Int × Int)} {es : Array MapEntry} {c : Nat} (hM : MapOf (Value.int .i64) (wv ws) es c) : (ws.map (·.1)).Nodup := by have := hM.keys; rwa [wv_keys] at this
end Go.Proofs.Ytbpioemenmahaaa
namespace Go.Proofs.Ytbpioemenmahaaa
open Go.Sym

/-- what Near makes of a call -/
def nearV (c0 c1 c2 c3 c4 c5 c6 : Int) : Value :=
  .agg #[.int .i64 (bitsZ .and .i64 c0 7), .int .i64 (IntKind.i64.wrap (1 + (bitsZ .and .i64 c1 7).tmod 5)), .int .i64 (IntKind.i64.wrap (1 + bitsZ .and .i64 c2 3)), .int .i64 (bitsZ .and .i64 c3 1),
    .int .i64 (if IntKind.i64.wrap (1 + bitsZ .and .i64 c2 3) = 4 then -1 else bitsZ .and .i64 c4 3), .int .i64 (if IntKind.i64.wrap (1 + bitsZ .and .i64 c2 3) = 1 then bitsZ .and .i64 c5 3 else -1), .int .i64 (bitsZ .and .i64 c6 7)]
theorem near_tri (c0 c1 c2 c3 c4 c5 c6 : Int) : TriQ Try.prog 13 #[.agg #[.int .i64 c0, .int .i64 c1, .int .i64 c2, .int .i64 c3, .int .i64 c4, .int .i64 c5, .int .i64 c6]] [] (nearV c0 c1 c2 c3 c4 c5 c6) := by
  have f_mixed := mixed; have f_fo23_0 := fo23_0; have f_fo23_1 := fo23_1; have f_fo23_2 := fo23_2; have f_fo23_3 := fo23_3; have f_fo27_0 := fo27_0; have f_fo27_1 := fo27_1; have f_fo27_2 := fo27_2; have f_fo27_3 := fo27_3; have f_pl23_0 := pl23_0; have f_pl23_1 := pl23_1; have f_pl23_2 := pl23_2; have f_pl23_3 := pl23_3; have f_st23 := st23; have f_ty23 := ty23; have f_ty27 := ty27; have f_ty3 := ty3; have f_zero23 := zero23; have f_zero27 := zero27
  unfold nearV
  generalize f_0 : bitsZ .and .i64 c0 7 = e0
  generalize f_1 : bitsZ .and .i64 c1 7 = e1
  generalize f_1b : e1.tmod 5 = e1b
  generalize f_1c : IntKind.i64.wrap (1 + e1b) = e1c
  generalize f_2 : bitsZ .and .i64 c2 3 = e2
  generalize f_2b : IntKind.i64.wrap (1 + e2) = e2b
  generalize f_3 : bitsZ .and .i64 c3 1 = e3
  generalize f_4 : bitsZ .and .i64 c4 3 = e4
  generalize f_5 : bitsZ .and .i64 c5 3 = e5
  generalize f_6 : bitsZ .and .i64 c6 7 = e6
  refine tri_intro (args := [_]) Try.func13 rfl Try.ntmps13 rfl (rs := _) rfl rfl fun E R => ?_
  simp only [fr, List.cons_append, List.nil_append]
  by_cases h1 : e2b = 1
  · have h4 : ¬ e2b = 4 := by omega
    rw [if_pos h1, if_neg h4]
    (apply sc_seq; apply sc_region; (apply so_box; (exact ev_); exact rfl; exact rfl; intro _); (apply so_alloc; assumption; exact rfl; intro _); apply so_nil; apply nm_then; apply sc_seq; apply sc_region; (apply so_ex; (apply ex_fieldAddr; (exact ev_); assumption); exact rfl); (apply so_ex; (apply ex_load1; (exact ev_); assumption; (exact mem_); (exact nth_)); exact rfl); (apply so_ex; (apply ex_and; (exact ev_); ((exact Ev.const)); (first | assumption | exact rfl)); exact rfl); (apply so_ex; (apply ex_fieldAddr; (exact ev_); assumption); exact rfl); (apply so_store; (exact ev_); (exact ev_); assumption; exact rfl; exact rfl; exact rfl; (focus (repeat (first | exact Turn.here | apply Turn.there))); (focus (repeat (first | exact SetSub.nil | apply SetSub.take | apply SetSub.drop)))); apply so_nil; apply nm_then; apply sc_seq; apply sc_region; (apply so_ex; (apply ex_fieldAddr; (exact ev_); assumption); exact rfl); (apply so_ex; (apply ex_load1; (exact ev_); assumption; (exact mem_); (exact nth_)); exact rfl); (apply so_ex; (apply ex_and; (exact ev_); ((exact Ev.const)); (first | assumption | exact rfl)); exact rfl); (apply so_ex; (apply ex_rem; (exact ev_); ((exact Ev.const)); (first | assumption | decide | omega); (first | assumption | exact rfl)); exact rfl); (apply so_ex; (apply ex_add; ((exact Ev.const)); (exact ev_); (first | assumption | (apply wrap_in; unfold InI; omega) | exact rfl)); exact rfl); (apply so_ex; (apply ex_fieldAddr; (exact ev_); assumption); exact rfl); (apply so_store; (exact ev_); (exact ev_); assumption; exact rfl; exact rfl; exact rfl; (focus (repeat (first | exact Turn.here | apply Turn.there))); (focus (repeat (first | exact SetSub.nil | apply SetSub.take | apply SetSub.drop)))); apply so_nil; apply nm_then; apply sc_seq; apply sc_region; (apply so_ex; (apply ex_fieldAddr; (exact ev_); assumption); exact rfl); (apply so_ex; (apply ex_load1; (exact ev_); assumption; (exact mem_); (exact nth_)); exact rfl); (apply so_ex; (apply ex_and; (exact ev_); ((exact Ev.const)); (first | assumption | exact rfl)); exact rfl); (apply so_ex; (apply ex_fieldAddr; (exact ev_); assumption); exact rfl); (apply so_store; (exact ev_); (exact ev_); assumption; exact rfl; exact rfl; exact rfl; (focus (repeat (first | exact Turn.here | apply Turn.there))); (focus (repeat (first | exact SetSub.nil | apply SetSub.take | apply SetSub.drop)))); apply so_nil; apply nm_then; apply sc_seq; apply sc_region; (apply so_ex; (apply ex_fieldAddr; (exact ev_); assumption); exact rfl); (apply so_ex; (apply ex_fieldAddr; (exact ev_); assumption); exact rfl); (apply so_ex; (apply ex_load1; (exact ev_); assumption; (exact mem_); (exact nth_)); exact rfl); (apply so_ex; (apply ex_and; (exact ev_); ((exact Ev.const)); (first | assumption | exact rfl)); exact rfl); (apply so_ex; (apply ex_add; ((exact Ev.const)); (exact ev_); (first | assumption | (apply wrap_in; unfold InI; omega) | exact rfl)); exact rfl); (apply so_ex; (apply ex_fieldAddr; (exact ev_); assumption); exact rfl); (apply so_ex; (apply ex_fieldAddr; (exact ev_); assumption); exact rfl); (apply so_ex; (apply ex_load1; (exact ev_); assumption; (exact mem_); (exact nth_)); exact rfl); (apply so_ex; (apply ex_and; (exact ev_); ((exact Ev.const)); (first | assumption | exact rfl)); exact rfl); (apply so_ex; (apply ex_fieldAddr; (exact ev_); assumption); exact rfl); (apply so_ex; (apply ex_fieldAddr; (exact ev_); assumption); exact rfl); (apply so_ex; (apply ex_load1; (exact ev_); assumption; (exact mem_); (exact nth_)); exact rfl); (apply so_ex; (apply ex_and; (exact ev_); ((exact Ev.const)); (first | assumption | exact rfl)); exact rfl); (apply so_ex; (apply ex_fieldAddr; (exact ev_); assumption); exact rfl); (apply so_ex; (apply ex_fieldAddr; (exact ev_); assumption); exact rfl); (apply so_ex; (apply ex_load1; (exact ev_); assumption; (exact mem_); (exact nth_)); exact rfl); (apply so_ex; (apply ex_and; (exact ev_); ((exact Ev.const)); (first | assumption | exact rfl)); exact rfl); (apply so_ex; (apply ex_build; ((focus ((apply EvP.cons; (exact ev_)); (apply EvP.cons; (exact ev_)); (apply EvP.cons; (exact ev_)); (apply EvP.cons; (exact ev_)); exact EvP.nil))); assumption; ((focus (repeat (first | exact Bld.nil (by assumption) | (apply Bld.cons; assumption; exact rfl; exact rfl; (focus (repeat (first | exact SetSub.nil | apply SetSub.take | apply SetSub.drop))))))))); exact rfl); (apply so_alloc; assumption; exact rfl; intro _); (apply so_store; (exact ev_); (exact ev_); assumption; exact rfl; exact rfl; exact rfl; (focus (repeat (first | exact Turn.here | apply Turn.there))); (focus (repeat (first | exact SetSub.nil | apply SetSub.take | apply SetSub.drop)))); apply so_nil; apply nm_then; (apply sc_seq); apply sc_seq; apply sc_region; (apply so_ex; (apply ex_fieldAddr; (exact ev_); assumption); exact rfl); (apply so_ex; (apply ex_load1; (exact ev_); assumption; (exact mem_); (exact nth_)); exact rfl); (apply so_ex; (apply ex_neq_f; (exact ev_); ((exact Ev.const)); (first | assumption | omega)); exact rfl); apply so_nil; apply nm_then; (apply sc_cond_false; (exact ev_)); (apply sc_skip); (apply nm_then); (apply sc_seq); apply sc_seq; apply sc_region; (apply so_ex; (apply ex_fieldAddr; (exact ev_); assumption); exact rfl); (apply so_ex; (apply ex_load1; (exact ev_); assumption; (exact mem_); (exact nth_)); exact rfl); (apply so_ex; (apply ex_eql_f; (exact ev_); ((exact Ev.const)); (first | assumption | omega)); exact rfl); apply so_nil; apply nm_then; (apply sc_cond_false; (exact ev_)); (apply sc_skip); (apply nm_then); apply sc_seq; apply sc_region; (apply so_ex; (apply ex_loadN; (exact ev_); assumption; (exact mem_); (exact sub_)); exact rfl); (apply so_ex; (apply ex_fieldAddr; (exact ev_); assumption); exact rfl); (apply so_store; (exact ev_); (exact ev_); assumption; exact rfl; exact rfl; exact rfl; (focus (repeat (first | exact Turn.here | apply Turn.there))); (focus (repeat (first | exact SetSub.nil | apply SetSub.take | apply SetSub.drop)))); apply so_nil; apply nm_then; apply sc_seq; apply sc_region; (apply so_ex; (apply ex_loadN; (exact ev_); assumption; (exact mem_); (exact sub_)); exact rfl); (apply so_store; (exact ev_); (exact ev_); assumption; exact rfl; exact rfl; exact rfl; (focus (repeat (first | exact Turn.here | apply Turn.there))); (focus (repeat (first | exact SetSub.nil | apply SetSub.take | apply SetSub.drop)))); apply so_nil; apply nm_then; (apply sc_ret); (apply ret_ok; (focus ((apply Res.agg; (exact ev_); assumption; (exact mem_); (exact sub_)); exact Res.nil)); (exact ⟨rfl, rfl⟩); (exact sel_); (exact appb_)))
  · rw [if_neg h1]
    by_cases h4 : e2b = 4
    · rw [if_pos h4]
      (apply sc_seq; apply sc_region; (apply so_box; (exact ev_); exact rfl; exact rfl; intro _); (apply so_alloc; assumption; exact rfl; intro _); apply so_nil; apply nm_then; apply sc_seq; apply sc_region; (apply so_ex; (apply ex_fieldAddr; (exact ev_); assumption); exact rfl); (apply so_ex; (apply ex_load1; (exact ev_); assumption; (exact mem_); (exact nth_)); exact rfl); (apply so_ex; (apply ex_and; (exact ev_); ((exact Ev.const)); (first | assumption | exact rfl)); exact rfl); (apply so_ex; (apply ex_fieldAddr; (exact ev_); assumption); exact rfl); (apply so_store; (exact ev_); (exact ev_); assumption; exact rfl; exact rfl; exact rfl; (focus (repeat (first | exact Turn.here | apply Turn.there))); (focus (repeat (first | exact SetSub.nil | apply SetSub.take | apply SetSub.drop)))); apply so_nil; apply nm_then; apply sc_seq; apply sc_region; (apply so_ex; (apply ex_fieldAddr; (exact ev_); assumption); exact rfl); (apply so_ex; (apply ex_load1; (exact ev_); assumption; (exact mem_); (exact nth_)); exact rfl); (apply so_ex; (apply ex_and; (exact ev_); ((exact Ev.const)); (first | assumption | exact rfl)); exact rfl); (apply so_ex; (apply ex_rem; (exact ev_); ((exact Ev.const)); (first | assumption | decide | omega); (first | assumption | exact rfl)); exact rfl); (apply so_ex; (apply ex_add; ((exact Ev.const)); (exact ev_); (first | assumption | (apply wrap_in; unfold InI; omega) | exact rfl)); exact rfl); (apply so_ex; (apply ex_fieldAddr; (exact ev_); assumption); exact rfl); (apply so_store; (exact ev_); (exact ev_); assumption; exact rfl; exact rfl; exact rfl; (focus (repeat (first | exact Turn.here | apply Turn.there))); (focus (repeat (first | exact SetSub.nil | apply SetSub.take | apply SetSub.drop)))); apply so_nil; apply nm_then; apply sc_seq; apply sc_region; (apply so_ex; (apply ex_fieldAddr; (exact ev_); assumption); exact rfl); (apply so_ex; (apply ex_load1; (exact ev_); assumption; (exact mem_); (exact nth_)); exact rfl); (apply so_ex; (apply ex_and; (exact ev_); ((exact Ev.const)); (first | assumption | exact rfl)); exact rfl); (apply so_ex; (apply ex_fieldAddr; (exact ev_); assumption); exact rfl); (apply so_store; (exact ev_); (exact ev_); assumption; exact rfl; exact rfl; exact rfl; (focus (repeat (first | exact Turn.here | apply Turn.there))); (focus (repeat (first | exact SetSub.nil | apply SetSub.take | apply SetSub.drop)))); apply so_nil; apply nm_then; apply sc_seq; apply sc_region; (apply so_ex; (apply ex_fieldAddr; (exact ev_); assumption); exact rfl); (apply so_ex; (apply ex_fieldAddr; (exact ev_); assumption); exact rfl); (apply so_ex; (apply ex_load1; (exact ev_); assumption; (exact mem_); (exact nth_)); exact rfl); (apply so_ex; (apply ex_and; (exact ev_); ((exact Ev.const)); (first | assumption | exact rfl)); exact rfl); (apply so_ex; (apply ex_add; ((exact Ev.const)); (exact ev_); (first | assumption | (apply wrap_in; unfold InI; omega) | exact rfl)); exact rfl); (apply so_ex; (apply ex_fieldAddr; (exact ev_); assumption); exact rfl); (apply so_ex; (apply ex_fieldAddr; (exact ev_); assumption); exact rfl); (apply so_ex; (apply ex_load1; (exact ev_); assumption; (exact mem_); (exact nth_)); exact rfl); (apply so_ex; (apply ex_and; (exact ev_); ((exact Ev.const)); (first | assumption | exact rfl)); exact rfl); (apply so_ex; (apply ex_fieldAddr; (exact ev_); assumption); exact rfl); (apply so_ex; (apply ex_fieldAddr; (exact ev_); assumption); exact rfl); (apply so_ex; (apply ex_load1; (exact ev_); assumption; (exact mem_); (exact nth_)); exact rfl); (apply so_ex; (apply ex_and; (exact ev_); ((exact Ev.const)); (first | assumption | exact rfl)); exact rfl); (apply so_ex; (apply ex_fieldAddr; (exact ev_); assumption); exact rfl); (apply so_ex; (apply ex_fieldAddr; (exact ev_); assumption); exact rfl); (apply so_ex; (apply ex_load1; (exact ev_); assumption; (exact mem_); (exact nth_)); exact rfl); (apply so_ex; (apply ex_and; (exact ev_); ((exact Ev.const)); (first | assumption | exact rfl)); exact rfl); (apply so_ex; (apply ex_build; ((focus ((apply EvP.cons; (exact ev_)); (apply EvP.cons; (exact ev_)); (apply EvP.cons; (exact ev_)); (apply EvP.cons; (exact ev_)); exact EvP.nil))); assumption; ((focus (repeat (first | exact Bld.nil (by assumption) | (apply Bld.cons; assumption; exact rfl; exact rfl; (focus (repeat (first | exact SetSub.nil | apply SetSub.take | apply SetSub.drop))))))))); exact rfl); (apply so_alloc; assumption; exact rfl; intro _); (apply so_store; (exact ev_); (exact ev_); assumption; exact rfl; exact rfl; exact rfl; (focus (repeat (first | exact Turn.here | apply Turn.there))); (focus (repeat (first | exact SetSub.nil | apply SetSub.take | apply SetSub.drop)))); apply so_nil; apply nm_then; (apply sc_seq); apply sc_seq; apply sc_region; (apply so_ex; (apply ex_fieldAddr; (exact ev_); assumption); exact rfl); (apply so_ex; (apply ex_load1; (exact ev_); assumption; (exact mem_); (exact nth_)); exact rfl); (apply so_ex; (apply ex_neq_t; (exact ev_); ((exact Ev.const)); (first | assumption | omega)); exact rfl); apply so_nil; apply nm_then; (apply sc_cond_true; (exact ev_)); (apply sc_region); (apply so_ex; (apply ex_fieldAddr; (exact ev_); assumption); exact rfl); (apply so_store; (exact ev_); (exact Ev.const); assumption; exact rfl; exact rfl; exact rfl; (focus (repeat (first | exact Turn.here | apply Turn.there))); (focus (repeat (first | exact SetSub.nil | apply SetSub.take | apply SetSub.drop)))); apply so_nil; apply nm_then; (apply sc_seq); apply sc_seq; apply sc_region; (apply so_ex; (apply ex_fieldAddr; (exact ev_); assumption); exact rfl); (apply so_ex; (apply ex_load1; (exact ev_); assumption; (exact mem_); (exact nth_)); exact rfl); (apply so_ex; (apply ex_eql_t; (exact ev_); ((exact Ev.const)); (first | assumption | omega)); exact rfl); apply so_nil; apply nm_then; (apply sc_cond_true; (exact ev_)); (apply sc_region); (apply so_ex; (apply ex_fieldAddr; (exact ev_); assumption); exact rfl); (apply so_store; (exact ev_); (exact Ev.const); assumption; exact rfl; exact rfl; exact rfl; (focus (repeat (first | exact Turn.here | apply Turn.there))); (focus (repeat (first | exact SetSub.nil | apply SetSub.take | apply SetSub.drop)))); apply so_nil; apply nm_then; apply sc_seq; apply sc_region; (apply so_ex; (apply ex_loadN; (exact ev_); assumption; (exact mem_); (exact sub_)); exact rfl); (apply so_ex; (apply ex_fieldAddr; (exact ev_); assumption); exact rfl); (apply so_store; (exact ev_); (exact ev_); assumption; exact rfl; exact rfl; exact rfl; (focus (repeat (first | exact Turn.here | apply Turn.there))); (focus (repeat (first | exact SetSub.nil | apply SetSub.take | apply SetSub.drop)))); apply so_nil; apply nm_then; apply sc_seq; apply sc_region; (apply so_ex; (apply ex_loadN; (exact ev_); assumption; (exact mem_); (exact sub_)); exact rfl); (apply so_store; (exact ev_); (exact ev_); assumption; exact rfl; exact rfl; exact rfl; (focus (repeat (first | exact Turn.here | apply Turn.there))); (focus (repeat (first | exact SetSub.nil | apply SetSub.take | apply SetSub.drop)))); apply so_nil; apply nm_then; (apply sc_ret); (apply ret_ok; (focus ((apply Res.agg; (exact ev_); assumption; (exact mem_); (exact sub_)); exact Res.nil)); (exact ⟨rfl, rfl⟩); (exact sel_); (exact appb_)))
    · rw [if_neg h4]
      (apply sc_seq; apply sc_region; (apply so_box; (exact ev_); exact rfl; exact rfl; intro _); (apply so_alloc; assumption; exact rfl; intro _); apply so_nil; apply nm_then; apply sc_seq; apply sc_region; (apply so_ex; (apply ex_fieldAddr; (exact ev_); assumption); exact rfl); (apply so_ex; (apply ex_load1; (exact ev_); assumption; (exact mem_); (exact nth_)); exact rfl); (apply so_ex; (apply ex_and; (exact ev_); ((exact Ev.const)); (first | assumption | exact rfl)); exact rfl); (apply so_ex; (apply ex_fieldAddr; (exact ev_); assumption); exact rfl); (apply so_store; (exact ev_); (exact ev_); assumption; exact rfl; exact rfl; exact rfl; (focus (repeat (first | exact Turn.here | apply Turn.there))); (focus (repeat (first | exact SetSub.nil | apply SetSub.take | apply SetSub.drop)))); apply so_nil; apply nm_then; apply sc_seq; apply sc_region; (apply so_ex; (apply ex_fieldAddr; (exact ev_); assumption); exact rfl); (apply so_ex; (apply ex_load1; (exact ev_); assumption; (exact mem_); (exact nth_)); exact rfl); (apply so_ex; (apply ex_and; (exact ev_); ((exact Ev.const)); (first | assumption | exact rfl)); exact rfl); (apply so_ex; (apply ex_rem; (exact ev_); ((exact Ev.const)); (first | assumption | decide | omega); (first | assumption | exact rfl)); exact rfl); (apply so_ex; (apply ex_add; ((exact Ev.const)); (exact ev_); (first | assumption | (apply wrap_in; unfold InI; omega) | exact rfl)); exact rfl); (apply so_ex; (apply ex_fieldAddr; (exact ev_); assumption); exact rfl); (apply so_store; (exact ev_); (exact ev_); assumption; exact rfl; exact rfl; exact rfl; (focus (repeat (first | exact Turn.here | apply Turn.there))); (focus (repeat (first | exact SetSub.nil | apply SetSub.take | apply SetSub.drop)))); apply so_nil; apply nm_then; apply sc_seq; apply sc_region; (apply so_ex; (apply ex_fieldAddr; (exact ev_); assumption); exact rfl); (apply so_ex; (apply ex_load1; (exact ev_); assumption; (exact mem_); (exact nth_)); exact rfl); (apply so_ex; (apply ex_and; (exact ev_); ((exact Ev.const)); (first | assumption | exact rfl)); exact rfl); (apply so_ex; (apply ex_fieldAddr; (exact ev_); assumption); exact rfl); (apply so_store; (exact ev_); (exact ev_); assumption; exact rfl; exact rfl; exact rfl; (focus (repeat (first | exact Turn.here | apply Turn.there))); (focus (repeat (first | exact SetSub.nil | apply SetSub.take | apply SetSub.drop)))); apply so_nil; apply nm_then; apply sc_seq; apply sc_region; (apply so_ex; (apply ex_fieldAddr; (exact ev_); assumption); exact rfl); (apply so_ex; (apply ex_fieldAddr; (exact ev_); assumption); exact rfl); (apply so_ex; (apply ex_load1; (exact ev_); assumption; (exact mem_); (exact nth_)); exact rfl); (apply so_ex; (apply ex_and; (exact ev_); ((exact Ev.const)); (first | assumption | exact rfl)); exact rfl); (apply so_ex; (apply ex_add; ((exact Ev.const)); (exact ev_); (first | assumption | (apply wrap_in; unfold InI; omega) | exact rfl)); exact rfl); (apply so_ex; (apply ex_fieldAddr; (exact ev_); assumption); exact rfl); (apply so_ex; (apply ex_fieldAddr; (exact ev_); assumption); exact rfl); (apply so_ex; (apply ex_load1; (exact ev_); assumption; (exact mem_); (exact nth_)); exact rfl); (apply so_ex; (apply ex_and; (exact ev_); ((exact Ev.const)); (first | assumption | exact rfl)); exact rfl); (apply so_ex; (apply ex_fieldAddr; (exact ev_); assumption); exact rfl); (apply so_ex; (apply ex_fieldAddr; (exact ev_); assumption); exact rfl); (apply so_ex; (apply ex_load1; (exact ev_); assumption; (exact mem_); (exact nth_)); exact rfl); (apply so_ex; (apply ex_and; (exact ev_); ((exact Ev.const)); (first | assumption | exact rfl)); exact rfl); (apply so_ex; (apply ex_fieldAddr; (exact ev_); assumption); exact rfl); (apply so_ex; (apply ex_fieldAddr; (exact ev_); assumption); exact rfl); (apply so_ex; (apply ex_load1; (exact ev_); assumption; (exact mem_); (exact nth_)); exact rfl); (apply so_ex; (apply ex_and; (exact ev_); ((exact Ev.const)); (first | assumption | exact rfl)); exact rfl); (apply so_ex; (apply ex_build; ((focus ((apply EvP.cons; (exact ev_)); (apply EvP.cons; (exact ev_)); (apply EvP.cons; (exact ev_)); (apply EvP.cons; (exact ev_)); exact EvP.nil))); assumption; ((focus (repeat (first | exact Bld.nil (by assumption) | (apply Bld.cons; assumption; exact rfl; exact rfl; (focus (repeat (first | exact SetSub.nil | apply SetSub.take | apply SetSub.drop))))))))); exact rfl); (apply so_alloc; assumption; exact rfl; intro _); (apply so_store; (exact ev_); (exact ev_); assumption; exact rfl; exact rfl; exact rfl; (focus (repeat (first | exact Turn.here | apply Turn.there))); (focus (repeat (first | exact SetSub.nil | apply SetSub.take | apply SetSub.drop)))); apply so_nil; apply nm_then; (apply sc_seq); apply sc_seq; apply sc_region; (apply so_ex; (apply ex_fieldAddr; (exact ev_); assumption); exact rfl); (apply so_ex; (apply ex_load1; (exact ev_); assumption; (exact mem_); (exact nth_)); exact rfl); (apply so_ex; (apply ex_neq_t; (exact ev_); ((exact Ev.const)); (first | assumption | omega)); exact rfl); apply so_nil; apply nm_then; (apply sc_cond_true; (exact ev_)); (apply sc_region); (apply so_ex; (apply ex_fieldAddr; (exact ev_); assumption); exact rfl); (apply so_store; (exact ev_); (exact Ev.const); assumption; exact rfl; exact rfl; exact rfl; (focus (repeat (first | exact Turn.here | apply Turn.there))); (focus (repeat (first | exact SetSub.nil | apply SetSub.take | apply SetSub.drop)))); apply so_nil; apply nm_then; (apply sc_seq); apply sc_seq; apply sc_region; (apply so_ex; (apply ex_fieldAddr; (exact ev_); assumption); exact rfl); (apply so_ex; (apply ex_load1; (exact ev_); assumption; (exact mem_); (exact nth_)); exact rfl); (apply so_ex; (apply ex_eql_f; (exact ev_); ((exact Ev.const)); (first | assumption | omega)); exact rfl); apply so_nil; apply nm_then; (apply sc_cond_false; (exact ev_)); (apply sc_skip); (apply nm_then); apply sc_seq; apply sc_region; (apply so_ex; (apply ex_loadN; (exact ev_); assumption; (exact mem_); (exact sub_)); exact rfl); (apply so_ex; (apply ex_fieldAddr; (exact ev_); assumption); exact rfl); (apply so_store; (exact ev_); (exact ev_); assumption; exact rfl; exact rfl; exact rfl; (focus (repeat (first | exact Turn.here | apply Turn.there))); (focus (repeat (first | exact SetSub.nil | apply SetSub.take | apply SetSub.drop)))); apply so_nil; apply nm_then; apply sc_seq; apply sc_region; (apply so_ex; (apply ex_loadN; (exact ev_); assumption; (exact mem_); (exact sub_)); exact rfl); (apply so_store; (exact ev_); (exact ev_); assumption; exact rfl; exact rfl; exact rfl; (focus (repeat (first | exact Turn.here | apply Turn.there))); (focus (repeat (first | exact SetSub.nil | apply SetSub.take | apply SetSub.drop)))); apply so_nil; apply nm_then; (apply sc_ret); (apply ret_ok; (focus ((apply Res.agg; (exact ev_); assumption; (exact mem_); (exact sub_)); exact Res.nil)); (exact ⟨rfl, rfl⟩); (exact sel_); (exact appb_)))
end Go.Proofs.Ytbpioemenmahaaa
namespace Go.Proofs.Ytbpioemenmahaaa
open Go.Sym

theorem covR1 {t : Tgt} {r : Int} {S' : List Lk} (h : ReadR 5 [] 1 t r S') : (mayT t = true ∧ r = 0 ∧ S' = [⟨1, t⟩]) ∨ (mayT t = false ∧ r = 1 ∧ S' = []) := by
  rcases h with ⟨h1, h2, h3⟩ | ⟨_, h2, _⟩ | ⟨h1, h2, h3⟩
  · cases hm : mayT t with
    | true => exact absurd ⟨by omega, hm⟩ h1
    | false => exact .inr ⟨rfl, h2, h3⟩
  · simp [hasT] at h2
  · have e : addT [] 1 t = [⟨1, t⟩] := rfl
    rw [e] at h3
    rcases h3 with ⟨hc, hr⟩ | ⟨S2, hc, _⟩
    · exact .inl ⟨h1.2, hr, (co_done (by simp; omega) hc).1⟩
    · cases (co_done (by simp; omega) hc).2
theorem covR2 {x y : Tgt} {r : Int} {S' : List Lk} (h : ReadR 5 [⟨1, x⟩] 1 y r S') : (mayT y = false ∧ r = 1 ∧ S' = [⟨1, x⟩]) ∨ (mayT y = true ∧ coversT x y = true ∧ r = 0 ∧ S' = [⟨1, x⟩]) ∨
    (mayT y = true ∧ coversT x y = false ∧ coversT y x = true ∧ r = 0 ∧ S' = [⟨1, y⟩]) ∨ (mayT y = true ∧ coversT x y = false ∧ coversT y x = false ∧ r = 0 ∧ S' = [⟨1, x⟩, ⟨1, y⟩]) := by
  have hh : hasT [⟨1, x⟩] 1 y = (mayT y && coversT x y) := by simp [hasT]
  rcases h with ⟨h1, h2, h3⟩ | ⟨h1, h2, h3, h4⟩ | ⟨h1, h2, h3⟩
  · cases hm : mayT y with
    | true => exact absurd ⟨by omega, hm⟩ h1
    | false => exact .inl ⟨rfl, h2, h3⟩
  · rw [hh, h1.2] at h2
    exact .inr (.inl ⟨h1.2, by simpa using h2, h3, h4⟩)
  · rw [hh, h1.2] at h2
    have h2 : coversT x y = false := by simpa using h2
    cases hc : coversT y x with
    | true =>
      have e : addT [⟨1, x⟩] 1 y = [⟨1, y⟩] := by simp [addT, hc]
      rw [e] at h3
      rcases h3 with ⟨hc2, hr⟩ | ⟨S2, hc2, _⟩
      · exact .inr (.inr (.inl ⟨h1.2, h2, rfl, hr, (co_done (by simp; omega) hc2).1⟩))
      · cases (co_done (by simp; omega) hc2).2
    | false =>
      have e : addT [⟨1, x⟩] 1 y = [⟨1, x⟩, ⟨1, y⟩] := by simp [addT, hc]
      rw [e] at h3
      rcases h3 with ⟨hc2, hr⟩ | ⟨S2, hc2, _⟩
      · exact .inr (.inr (.inr ⟨h1.2, h2, rfl, hr, (co_done (by simp; omega) hc2).1⟩))
      · cases (co_done (by simp; omega) hc2).2
theorem refCov_eq {a b : Tgt} (h : mayT a = true) : refCoversT a b = coversT a b := by
  obtain ⟨k, t, p, s⟩ := a
  obtain ⟨k', t', p', s'⟩ := b
  unfold mayT at h
  unfold refCoversT coversT tableT pageT
  simp only at h ⊢
  rw [Bool.eq_iff_iff]
  simp only [Bool.or_eq_true, Bool.and_eq_true, decide_eq_true_eq, beq_iff_eq, Tgt.mk.injEq]
  split at h
  · simp only [Bool.and_eq_true, decide_eq_true_eq] at h
    omega
  · split at h
    · simp only [Bool.and_eq_true, decide_eq_true_eq] at h
      omega
    · split at h
      · simp only [Bool.and_eq_true, decide_eq_true_eq] at h
        omega
      · cases h
end Go.Proofs.Ytbpioemenmahaaa
namespace Go.Proofs.Ytbpioemenmahaaa
open Go.Sym

theorem doDrop_tri {p m : Nat} {most : Int} {es : Array MapEntry} {c : Nat} {S : List Lk} (hM : MapOf encLock (lv S) es c) (tx k t pg s to : Int) :
    Tri Try.prog 36 #[.pointer (some ⟨p, 0, none⟩), .agg #[.int .i64 2, .int .i64 tx, .int .i64 k, .int .i64 t, .int .i64 pg, .int .i64 s, .int .i64 to]] (lBlk p m most es c) (fun v L => v = .int .i64 0 ∧ LAt p most (dropT S tx) L) := by
  have f_mixed := mixed; have f_en15 := en15; have f_en33 := en33; have f_en34 := en34; have f_en56 := en56; have f_fo23_1 := fo23_1; have f_fo23_2 := fo23_2; have f_fo27_0 := fo27_0; have f_fo27_1 := fo27_1; have f_fo27_2 := fo27_2; have f_fo27_3 := fo27_3; have f_ty23 := ty23; have f_ty27 := ty27; have f_ty3 := ty3
  refine tri_intro (args := [_, _]) Try.func36 rfl Try.ntmps36 rfl (rs := _) rfl rfl fun E R => ?_
  simp only [fr, lBlk, List.cons_append, List.nil_append]
  (apply sc_seq; apply sc_region; (apply so_box; (exact ev_); exact rfl; exact rfl; intro _); (apply so_ex; (apply ex_assign; ((exact Ev.const))); exact rfl); apply so_nil; apply nm_then; (apply sc_seq); apply sc_seq; apply sc_region; (apply so_ex; (apply ex_fieldAddr; (exact ev_); assumption); exact rfl); (apply so_ex; (apply ex_load1; (exact ev_); assumption; (exact mem_); (exact nth_)); exact rfl); apply so_nil; apply nm_then; (apply sc_block); apply sc_seq; apply sc_region; (apply so_ex; (apply ex_eql_f; (exact ev_); ((exact Ev.const)); (first | assumption | omega)); exact rfl); (apply so_ex; (apply ex_assign; (exact ev_)); exact rfl); apply so_nil; apply nm_then; (apply sc_cond_false; (exact ev_)); apply sc_seq; apply sc_region; (apply so_ex; (apply ex_eql_f; (exact ev_); ((exact Ev.const)); (first | assumption | omega)); exact rfl); (apply so_ex; (apply ex_assign; (exact ev_)); exact rfl); apply so_nil; apply nm_then; (apply sc_cond_false; (exact ev_)); apply sc_seq; apply sc_region; (apply so_ex; (apply ex_eql_t; (exact ev_); ((exact Ev.const)); (first | assumption | omega)); exact rfl); (apply so_ex; (apply ex_assign; (exact ev_)); exact rfl); apply so_nil; apply nm_then; (apply sc_cond_true; (exact ev_)); (apply sc_region); (apply so_ex; (apply ex_move; (exact ev_)); exact rfl); (apply so_ex; (apply ex_fieldAddr; (exact ev_); assumption); exact rfl); (apply so_ex; (apply ex_load1; (exact ev_); assumption; (exact mem_); (exact nth_)); exact rfl))
  (apply so_call; (exact Ev.func); (focus ((apply EvL.cons; (exact ev_)); (apply EvL.cons; (exact ev_)); exact EvL.nil)); (focus (repeat (first | exact App.nil | apply App.cons))); assumption; (exact drop_tri (p := p) (m := m) (most := most) hM tx); (exact sel_); exact rfl)
  rintro v L' ⟨m2, es2, c2, rfl, hM2⟩
  simp only [lBlk, List.cons_append, List.nil_append]
  ((apply so_nil); (apply nm_block); (apply nm_then); apply sc_seq; apply sc_region; (apply so_ex; (apply ex_assign; ((exact Ev.const))); exact rfl); apply so_nil; apply nm_then; (apply sc_ret); (apply ret_ok; (focus ((apply Res.tmp; (exact ev_)); exact Res.nil)); (exact ⟨rfl, m2, es2, c2, rfl, hM2⟩); (exact sel_); (exact appb_)))
theorem doRead_tri {p m : Nat} {most : Int} {es : Array MapEntry} {c : Nat} {S : List Lk} (hM : MapOf encLock (lv S) es c) (hS : S.length < 1000000) (tx k t pg s to : Int) :
    Tri Try.prog 36 #[.pointer (some ⟨p, 0, none⟩), .agg #[.int .i64 3, .int .i64 tx, .int .i64 k, .int .i64 t, .int .i64 pg, .int .i64 s, .int .i64 to]] (lBlk p m most es c) (fun v L => ∃ r S', v = .int .i64 r ∧ ReadR most S tx ⟨k, t, pg, s⟩ r S' ∧ LAt p most S' L) := by
  have f_mixed := mixed; have f_en15 := en15; have f_en33 := en33; have f_en34 := en34; have f_en56 := en56; have f_fo23_1 := fo23_1; have f_fo23_2 := fo23_2; have f_fo27_0 := fo27_0; have f_fo27_1 := fo27_1; have f_fo27_2 := fo27_2; have f_fo27_3 := fo27_3; have f_ty23 := ty23; have f_ty27 := ty27; have f_ty3 := ty3
  refine tri_intro (args := [_, _]) Try.func36 rfl Try.ntmps36 rfl (rs := _) rfl rfl fun E R => ?_
  simp only [fr, lBlk, List.cons_append, List.nil_append]
  (apply sc_seq; apply sc_region; (apply so_box; (exact ev_); exact rfl; exact rfl; intro _); (apply so_ex; (apply ex_assign; ((exact Ev.const))); exact rfl); apply so_nil; apply nm_then; (apply sc_seq); apply sc_seq; apply sc_region; (apply so_ex; (apply ex_fieldAddr; (exact ev_); assumption); exact rfl); (apply so_ex; (apply ex_load1; (exact ev_); assumption; (exact mem_); (exact nth_)); exact rfl); apply so_nil; apply nm_then; (apply sc_block); apply sc_seq; apply sc_region; (apply so_ex; (apply ex_eql_f; (exact ev_); ((exact Ev.const)); (first | assumption | omega)); exact rfl); (apply so_ex; (apply ex_assign; (exact ev_)); exact rfl); apply so_nil; apply nm_then; (apply sc_cond_false; (exact ev_)); apply sc_seq; apply sc_region; (apply so_ex; (apply ex_eql_f; (exact ev_); ((exact Ev.const)); (first | assumption | omega)); exact rfl); (apply so_ex; (apply ex_assign; (exact ev_)); exact rfl); apply so_nil; apply nm_then; (apply sc_cond_false; (exact ev_)); apply sc_seq; apply sc_region; (apply so_ex; (apply ex_eql_f; (exact ev_); ((exact Ev.const)); (first | assumption | omega)); exact rfl); (apply so_ex; (apply ex_assign; (exact ev_)); exact rfl); apply so_nil; apply nm_then; (apply sc_cond_false; (exact ev_)); apply sc_seq; apply sc_region; (apply so_ex; (apply ex_move; (exact ev_)); exact rfl); (apply so_ex; (apply ex_fieldAddr; (exact ev_); assumption); exact rfl); (apply so_ex; (apply ex_load1; (exact ev_); assumption; (exact mem_); (exact nth_)); exact rfl); (apply so_ex; (apply ex_fieldAddr; (exact ev_); assumption); exact rfl); (apply so_ex; (apply ex_loadN; (exact ev_); assumption; (exact mem_); (exact sub_)); exact rfl))
  (apply so_call; (exact Ev.func); (focus ((apply EvL.cons; (exact ev_)); (apply EvL.cons; (exact ev_)); (apply EvL.cons; (exact ev_)); exact EvL.nil)); (focus (repeat (first | exact App.nil | apply App.cons))); assumption; (exact read_tri (p := p) (m := m) (most := most) hM hS tx k t pg s); (exact sel_); exact rfl)
  rintro v L' ⟨r, S', rfl, hR, m2, es2, c2, rfl, hM2⟩
  simp only [lBlk, List.cons_append, List.nil_append]
  ((apply so_ex; (apply ex_assign; (exact ev_)); exact rfl); apply so_nil; apply nm_then; (apply sc_ret); (apply rt_block); (apply rt_then); (apply ret_ok; (focus ((apply Res.tmp; (exact ev_)); exact Res.nil)); (exact ⟨r, S', rfl, hR, m2, es2, c2, rfl, hM2⟩); (exact sel_); (exact appb_)))
end Go.Proofs.Ytbpioemenmahaaa
namespace Go.Proofs.Ytbpioemenmahaaa
open Go.Sym

theorem and_mask (z : Int) (n : Nat) (hn : n < 9223372036854775808) : ∃ N : Int, bitsZ .and .i64 z n = N ∧ 0 ≤ N ∧ N ≤ n := by
  refine ⟨_, rfl, ?_⟩
  have h : (BitVec.ofInt IntKind.i64.bits z &&& BitVec.ofInt IntKind.i64.bits n).toNat ≤ n := by
    rw [BitVec.toNat_and]
    refine Nat.le_trans Nat.and_le_right ?_
    rw [BitVec.ofInt_natCast, BitVec.toNat_ofNat]
    exact Nat.mod_le _ _
  unfold bitsZ
  simp only
  rw [wrap_nn (by omega)]
  omega
/-- what Near gives -/
structure Near (k tx : Int) (t : Tgt) (to : Int) : Prop where
  k0 : 0 ≤ k
  k7 : k ≤ 7
  tx1 : 1 ≤ tx
  tx5 : tx ≤ 5
  may : mayT t = true
  tb0 : 0 ≤ t.table
  tb1 : t.table ≤ 1
  pg3 : t.page ≤ 3
  pg0 : -1 ≤ t.page
  to0 : 0 ≤ to
  to7 : to ≤ 7
theorem near_out (c0 c1 c2 c3 c4 c5 c6 : Int) : ∃ k tx a b u s to : Int, nearV c0 c1 c2 c3 c4 c5 c6 = .agg #[.int .i64 k, .int .i64 tx, .int .i64 a, .int .i64 b, .int .i64 u, .int .i64 s, .int .i64 to] ∧ Near k tx ⟨a, b, u, s⟩ to := by
  unfold nearV
  obtain ⟨e0, h0, h00, h01⟩ := and_mask c0 7 (by decide)
  obtain ⟨e1, h1, h10, h11⟩ := and_mask c1 7 (by decide)
  obtain ⟨e2, h2, h20, h21⟩ := and_mask c2 3 (by decide)
  obtain ⟨e3, h3, h30, h31⟩ := and_mask c3 1 (by decide)
  obtain ⟨e4, h4, h40, h41⟩ := and_mask c4 3 (by decide)
  obtain ⟨e5, h5, h50, h51⟩ := and_mask c5 3 (by decide)
  obtain ⟨e6, h6, h60, h61⟩ := and_mask c6 7 (by decide)
  have h0 : bitsZ .and .i64 c0 7 = e0 := h0
  have h1 : bitsZ .and .i64 c1 7 = e1 := h1
  have h2 : bitsZ .and .i64 c2 3 = e2 := h2
  have h3 : bitsZ .and .i64 c3 1 = e3 := h3
  have h4 : bitsZ .and .i64 c4 3 = e4 := h4
  have h5 : bitsZ .and .i64 c5 3 = e5 := h5
  have h6 : bitsZ .and .i64 c6 7 = e6 := h6
  rw [h0, h1, h2, h3, h4, h5, h6]
  have ht : 0 ≤ e1.tmod 5 ∧ e1.tmod 5 ≤ 4 := ⟨Int.tmod_nonneg 5 h10, Int.le_of_lt_add_one (Int.tmod_lt_of_pos e1 (by decide))⟩
  rw [wrap_in (x := 1 + e1.tmod 5) (by unfold InI; omega), wrap_in (x := 1 + e2) (by unfold InI; omega)]
  refine ⟨_, _, _, _, _, _, _, rfl, h00, by omega, by omega, by omega, ?_, h30, by omega, ?_, ?_, h60, by omega⟩
  · simp only [mayT]
    split
    · simp; omega
    · split
      · simp; omega
      · split
        · simp; omega
        · exfalso; omega
  · simp only; split <;> omega
  · simp only; split <;> omega
/-- Drop or Read, as one step -/
structure DoR (most : Int) (K tx : Int) (t : Tgt) (S : List Lk) (r : Int) (S' : List Lk) : Prop where
  ret : r = 0 ∨ r = 45 ∧ K = 3
  same : r = 45 → S' = S
  len : (S'.length : Int) ≤ most
  keep : ∀ tx' t', (K = 2 → tx' ≠ tx) → hasT S tx' t' = true → hasT S' tx' t' = true
  gone : K = 2 → ∀ t', hasT S' tx t' = false
  got : K = 3 → r = 0 → hasT S' tx t = true
theorem doR_drop {most : Int} {S : List Lk} {tx : Int} (t : Tgt) (hl : (S.length : Int) ≤ most) : DoR most 2 tx t S 0 (dropT S tx) where
  ret := .inl rfl
  same h := by cases h
  len := by
    have := List.length_filter_le (fun k : Lk => !decide (k.tx = tx)) S
    unfold dropT
    omega
  keep tx' t' h1 h2 := hasT_drop (h1 rfl) h2
  gone _ t' := hasT_dropped S tx t'
  got h := by cases h
theorem doR_read {most : Int} {S S' : List Lk} {tx r : Int} {t : Tgt} (h1 : 1 ≤ tx) (hm : mayT t = true) (hl : (S.length : Int) ≤ most) (hmost : 1 ≤ most) (h : ReadR most S tx t r S') : DoR most 3 tx t S r S' := by
  rcases h with ⟨h, _⟩ | ⟨_, hh, rfl, rfl⟩ | ⟨_, _, ⟨hc, rfl⟩ | ⟨S2, hc, rfl, rfl⟩⟩
  · exact absurd ⟨h1, hm⟩ h
  · exact ⟨.inl rfl, fun _ => rfl, hl, fun _ _ _ h => h, fun h => (by cases h), fun _ _ => hh⟩
  · refine ⟨.inl rfl, fun h => (by cases h), ?_, fun _ _ _ h => hasT_co hc (hasT_add h), fun h => (by cases h), fun _ _ => hasT_co hc (hasT_new S hm)⟩
    have := co_len hc rfl
    omega
  · exact ⟨.inr ⟨rfl, rfl⟩, fun _ => rfl, hl, fun _ _ _ h => h, fun h => (by cases h), fun _ h => (by cases h)⟩
theorem do23_tri {p m : Nat} {most : Int} {es : Array MapEntry} {c : Nat} {S : List Lk} (hM : MapOf encLock (lv S) es c) (hS : S.length < 1000000) {K tx k t pg s : Int} (to : Int) (hK : K = 2 ∨ K = 3) (h1 : 1 ≤ tx) (hm : mayT ⟨k, t, pg, s⟩ = true) (hl : (S.length : Int) ≤ most) (hmost : 1 ≤ most) :
    Tri Try.prog 36 #[.pointer (some ⟨p, 0, none⟩), .agg #[.int .i64 K, .int .i64 tx, .int .i64 k, .int .i64 t, .int .i64 pg, .int .i64 s, .int .i64 to]] (lBlk p m most es c) (fun v L => ∃ r S', v = .int .i64 r ∧ DoR most K tx ⟨k, t, pg, s⟩ S r S' ∧ LAt p most S' L) := by
  rcases hK with rfl | rfl
  · exact (doDrop_tri hM tx k t pg s to).mono fun v L ⟨hv, hL⟩ => ⟨0, _, hv, doR_drop _ hl, hL⟩
  · exact (doRead_tri hM hS tx k t pg s to).mono fun v L ⟨r, S', hv, hR, hL⟩ => ⟨r, S', hv, doR_read h1 hm hl hmost hR, hL⟩
end Go.Proofs.Ytbpioemenmahaaa
