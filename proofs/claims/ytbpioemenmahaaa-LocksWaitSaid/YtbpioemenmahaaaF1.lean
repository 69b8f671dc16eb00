/- Locks: the reference's waits-for graph: On, Done. -/
import Derived.Test.YtbpioemenmahaaaD1
import Derived.Test.YtbpioemenmahaaaE1
set_option linter.unusedVariables false
set_option linter.unusedSimpArgs false
set_option linter.unnecessarySimpa false
namespace Go.Proofs.Ytbpioemenmahaaa
open Go.Sym

def pcells (rs : List (Int × Int)) : List Value := rs.flatMap fun p => [.int .i64 p.1, .int .i64 p.2]
theorem pcells_len (rs : List (Int × Int)) : (pcells rs).length = rs.length * 2 := by
  induction rs with
  | nil => rfl
  | cons p rs ih => unfold pcells at *; rw [List.flatMap_cons, List.length_append, ih]; simp; omega
theorem pcells_snoc (rs : List (Int × Int)) (p : Int × Int) : pcells (rs ++ [p]) = pcells rs ++ [.int .i64 p.1, .int .i64 p.2] := by
  unfold pcells; rw [List.flatMap_append]; rfl
theorem pcells_get : ∀ {rs : List (Int × Int)} {j : Nat} (junk : List Value) (h : j < rs.length), (pcells rs ++ junk)[0 + j * 2 + 0]? = some (.int .i64 (rs[j]).1) ∧ (pcells rs ++ junk)[0 + j * 2 + 1]? = some (.int .i64 (rs[j]).2)
  | p :: rs, 0, junk, _ => by unfold pcells; simp
  | p :: rs, j + 1, junk, h => by
    have ih := pcells_get (rs := rs) (j := j) junk (by simpa using h)
    unfold pcells at ih ⊢
    rw [List.flatMap_cons, List.append_assoc]
    constructor
    · rw [List.getElem?_append_right (by simp; omega)]
      have e : 0 + (j + 1) * 2 + 0 - [Value.int .i64 p.1, Value.int .i64 p.2].length = 0 + j * 2 + 0 := by simp; omega
      rw [e, ih.1]; simp
    · rw [List.getElem?_append_right (by simp; omega)]
      have e : 0 + (j + 1) * 2 + 1 - [Value.int .i64 p.1, Value.int .i64 p.2].length = 0 + j * 2 + 1 := by simp; omega
      rw [e, ih.2]; simp
/-- the reference's graph: a list of pairs, in a slice that may be nil -/
def RSome (p : Nat) (rs : List (Int × Int)) (L : List Blk) : Prop := ∃ (b cap : Nat) (junk : List Value), L = [(p, .cells [Value.slice (some ⟨b, 0, none⟩) rs.length cap].toArray 56), (b, .cells (pcells rs ++ junk).toArray 94)] ∧ (pcells rs ++ junk).length = cap * 2
def RAt (p : Nat) (rs : List (Int × Int)) (L : List Blk) : Prop := (rs = [] ∧ L = [(p, .cells [Value.slice none 0 0].toArray 56)]) ∨ RSome p rs L
theorem onW_none {rs : List (Int × Int)} {t : Int} (h : ∀ j (hj : j < rs.length), (rs[j]).1 ≠ t) : onW rs t = 0 := by
  have : onO rs t = none := onO_none (by
    unfold hasW
    refine List.any_eq_false.2 fun p hp => ?_
    obtain ⟨j, hj, rfl⟩ := List.getElem_of_mem hp
    simpa using h j hj)
  unfold onW; rw [this]; rfl
theorem onW_at : ∀ {rs : List (Int × Int)} {t : Int} {j : Nat} (hj : j < rs.length), (rs[j]).1 = t → (∀ i (hi : i < j), (rs[i]'(by omega)).1 ≠ t) → onW rs t = (rs[j]).2
  | p :: rs, t, 0, _, h, _ => by
    have h : p.1 = t := h
    unfold onW; rw [onO_cons, if_pos h]; rfl
  | p :: rs, t, j + 1, hj, h, hn => by
    have h0 : p.1 ≠ t := hn 0 (by omega)
    have ih := onW_at (rs := rs) (t := t) (j := j) (by simpa using hj) (by simpa using h) fun i hi => by
      have := hn (i + 1) (by omega)
      simpa using this
    unfold onW at ih ⊢
    rw [onO_cons, if_neg h0, ih]
    simp
theorem refOn_tri {p : Nat} {rs : List (Int × Int)} {L : List Blk} (h : RAt p rs L) (hS : rs.length ≤ 4096) (t : Int) : TriQ Try.prog 31 #[.pointer (some ⟨p, 0, none⟩), .int .i64 t] L (.int .i64 (onW rs t)) := by
  have f_mixed := mixed; have f_by94 := by94; have f_fo56_0 := fo56_0; have f_fo94_0 := fo94_0; have f_fo94_1 := fo94_1; have f_ty3 := ty3; have f_ty54 := ty54; have f_ty94 := ty94; have f_un_54 : Und Try.prog 54 _ := ⟨Try.underlying54⟩; have f_zero94 := zero94; have f_zv94 := zv94
  rcases h with ⟨rfl, rfl⟩ | ⟨b, cap, junk, rfl, hj⟩
  · have f_0 : onW [] t = 0 := rfl
    rw [f_0]
    refine tri_intro (args := [_, _]) Try.func31 rfl Try.ntmps31 rfl (rs := _) rfl rfl fun E R => ?_
    simp only [fr, List.cons_append, List.nil_append]
    ((apply sc_seq); (apply sc_region); (apply so_ex; (apply ex_assign; ((exact Ev.const))); exact rfl); (apply so_nil); (apply nm_then); (apply sc_seq); (apply sc_seq); (apply sc_region); (apply so_ex; (apply ex_assign; ((exact Ev.const))); exact rfl); (apply so_nil); (apply nm_then); (apply sc_block))
    refine sc_loop (fun q f L => At f 0 (.pointer (some ⟨p, 0, none⟩)) ∧ At f 5 (.int .i64 0) ∧ Held L [(p, .cells [Value.slice none 0 0].toArray 56)] R) 0 ⟨(by apply Ev.at; (focus (repeat (first | exact Ev.same | apply Ev.other rfl | exact Ev.base (by assumption))))), (by apply Ev.at; (focus (repeat (first | exact Ev.same | apply Ev.other rfl | exact Ev.base (by assumption))))), (by apply held; (focus (repeat (first | exact Sel.nil | (apply Sel.cons; (focus (repeat (first | exact Pick.here | apply Pick.there)))) | exact Sel.all | exact Sel.self | apply Sel.skip))); (focus (repeat (first | exact AppB.self | exact AppB.nil | apply AppB.cons))))⟩ ?_
    rintro q f L ⟨a0, a5, ⟨G, hG⟩⟩
    refine sc_perm hG ?_
    simp only [List.cons_append, List.nil_append]
    ((apply sc_seq); (apply sc_seq); (apply sc_region); (apply so_ex; (apply ex_move; ((focus (repeat (first | exact Ev.same | apply Ev.other rfl | exact Ev.base (by assumption)))))); exact rfl); (apply so_ex; (apply ex_move; ((focus (repeat (first | exact Ev.same | apply Ev.other rfl | exact Ev.base (by assumption)))))); exact rfl); (apply so_ex; (apply ex_nilCheck; ((focus (repeat (first | exact Ev.same | apply Ev.other rfl | exact Ev.base (by assumption)))))); exact rfl); (apply so_ex; (apply ex_fieldAddr; ((focus (repeat (first | exact Ev.same | apply Ev.other rfl | exact Ev.base (by assumption))))); assumption); exact rfl); (apply so_ex; (apply ex_load1; ((focus (repeat (first | exact Ev.same | apply Ev.other rfl | exact Ev.base (by assumption))))); assumption; ((focus (repeat (first | exact List.Mem.head _ | apply List.Mem.tail)))); ((focus (repeat (first | exact Nth.zero | apply Nth.succ))))); exact rfl); (apply so_ex; (apply ex_len_slice; ((focus (repeat (first | exact Ev.same | apply Ev.other rfl | exact Ev.base (by assumption))))); assumption); exact rfl); (apply so_ex; (apply ex_lss_f; ((focus (repeat (first | exact Ev.same | apply Ev.other rfl | exact Ev.base (by assumption))))); ((focus (repeat (first | exact Ev.same | apply Ev.other rfl | exact Ev.base (by assumption))))); (first | assumption | omega)); exact rfl); (apply so_nil); (apply nm_then); (apply sc_cond_false; ((focus (repeat (first | exact Ev.same | apply Ev.other rfl | exact Ev.base (by assumption)))))); (apply sc_exit); (apply et_then); (apply et_then); (apply et_hit); (apply nm_then); (apply sc_seq); (apply sc_region); (apply so_ex; (apply ex_assign; ((exact Ev.const))); exact rfl); (apply so_nil); (apply nm_then); (apply sc_ret); (apply ret_ok; (focus ((apply Res.tmp; (focus (repeat (first | exact Ev.same | apply Ev.other rfl | exact Ev.base (by assumption))))); exact Res.nil)); (exact ⟨rfl, rfl⟩); (focus (repeat (first | exact Sel.nil | (apply Sel.cons; (focus (repeat (first | exact Pick.here | apply Pick.there)))) | exact Sel.all | exact Sel.self | apply Sel.skip))); (focus (repeat (first | exact AppB.self | exact AppB.nil | apply AppB.cons)))))
  · refine tri_intro (args := [_, _]) Try.func31 rfl Try.ntmps31 rfl (rs := _) rfl rfl fun E R => ?_
    simp only [fr, List.cons_append, List.nil_append]
    ((apply sc_seq); (apply sc_region); (apply so_ex; (apply ex_assign; ((exact Ev.const))); exact rfl); (apply so_nil); (apply nm_then); (apply sc_seq); (apply sc_seq); (apply sc_region); (apply so_ex; (apply ex_assign; ((exact Ev.const))); exact rfl); (apply so_nil); (apply nm_then); (apply sc_block))
    refine sc_loop (fun q f L => ∃ j : Nat, j ≤ rs.length ∧ q = rs.length - j ∧ (∀ i (hi : i < rs.length), i < j → (rs[i]).1 ≠ t) ∧ At f 0 (.pointer (some ⟨p, 0, none⟩)) ∧ At f 1 (.int .i64 t) ∧ At f 5 (.int .i64 (j : Int)) ∧ Held L [(p, .cells [Value.slice (some ⟨b, 0, none⟩) rs.length cap].toArray 56), (b, .cells (pcells rs ++ junk).toArray 94)] R)
      _ ⟨0, Nat.zero_le _, rfl, fun i _ h => absurd h (by omega), (by apply Ev.at; (focus (repeat (first | exact Ev.same | apply Ev.other rfl | exact Ev.base (by assumption))))), (by apply Ev.at; (focus (repeat (first | exact Ev.same | apply Ev.other rfl | exact Ev.base (by assumption))))), (by apply Ev.at; (focus (repeat (first | exact Ev.same | apply Ev.other rfl | exact Ev.base (by assumption))))), (by apply held; (focus (repeat (first | exact Sel.nil | (apply Sel.cons; (focus (repeat (first | exact Pick.here | apply Pick.there)))) | exact Sel.all | exact Sel.self | apply Sel.skip))); (focus (repeat (first | exact AppB.self | exact AppB.nil | apply AppB.cons))))⟩ ?_
    rintro q f L ⟨j, hj1, hq, hno, a0, a1, a5, ⟨G, hG⟩⟩
    refine sc_perm hG ?_
    simp only [List.cons_append, List.nil_append]
    ((apply sc_seq); (apply sc_seq); (apply sc_region); (apply so_ex; (apply ex_move; ((focus (repeat (first | exact Ev.same | apply Ev.other rfl | exact Ev.base (by assumption)))))); exact rfl); (apply so_ex; (apply ex_move; ((focus (repeat (first | exact Ev.same | apply Ev.other rfl | exact Ev.base (by assumption)))))); exact rfl); (apply so_ex; (apply ex_nilCheck; ((focus (repeat (first | exact Ev.same | apply Ev.other rfl | exact Ev.base (by assumption)))))); exact rfl); (apply so_ex; (apply ex_fieldAddr; ((focus (repeat (first | exact Ev.same | apply Ev.other rfl | exact Ev.base (by assumption))))); assumption); exact rfl); (apply so_ex; (apply ex_load1; ((focus (repeat (first | exact Ev.same | apply Ev.other rfl | exact Ev.base (by assumption))))); assumption; ((focus (repeat (first | exact List.Mem.head _ | apply List.Mem.tail)))); ((focus (repeat (first | exact Nth.zero | apply Nth.succ))))); exact rfl); (apply so_ex; (apply ex_len_slice; ((focus (repeat (first | exact Ev.same | apply Ev.other rfl | exact Ev.base (by assumption))))); assumption); exact rfl); (apply so_split; (apply ex_lss; ((focus (repeat (first | exact Ev.same | apply Ev.other rfl | exact Ev.base (by assumption))))); ((focus (repeat (first | exact Ev.same | apply Ev.other rfl | exact Ev.base (by assumption)))))); exact rfl; refine ⟨fun _ => ?_, fun _ => ?_⟩); (apply so_nil); (apply nm_then); (apply sc_cond_true; ((focus (repeat (first | exact Ev.same | apply Ev.other rfl | exact Ev.base (by assumption)))))); (apply sc_skip); (apply nm_then); (apply sc_seq); (apply sc_block); (apply sc_seq); (apply sc_region); (apply so_ex; (apply ex_move; ((focus (repeat (first | exact Ev.same | apply Ev.other rfl | exact Ev.base (by assumption)))))); exact rfl); (apply so_ex; (apply ex_nilCheck; ((focus (repeat (first | exact Ev.same | apply Ev.other rfl | exact Ev.base (by assumption)))))); exact rfl); (apply so_ex; (apply ex_fieldAddr; ((focus (repeat (first | exact Ev.same | apply Ev.other rfl | exact Ev.base (by assumption))))); assumption); exact rfl); (apply so_ex; (apply ex_load1; ((focus (repeat (first | exact Ev.same | apply Ev.other rfl | exact Ev.base (by assumption))))); assumption; ((focus (repeat (first | exact List.Mem.head _ | apply List.Mem.tail)))); ((focus (repeat (first | exact Nth.zero | apply Nth.succ))))); exact rfl); (apply so_ex; (apply ex_move; ((focus (repeat (first | exact Ev.same | apply Ev.other rfl | exact Ev.base (by assumption)))))); exact rfl); (apply so_ex; (apply ex_indexAddr; ((focus (repeat (first | exact Ev.same | apply Ev.other rfl | exact Ev.base (by assumption))))); ((focus (repeat (first | exact Ev.same | apply Ev.other rfl | exact Ev.base (by assumption))))); assumption; assumption; (first | exact rfl | exact (rfl : (0:Int) = ((0:Nat):Int)) | exact (rfl : (1:Int) = ((1:Nat):Int)) | exact (rfl : (2:Int) = ((2:Nat):Int)) | assumption); (first | assumption | omega | decide)); exact rfl); (apply so_ex; (apply ex_fieldAddr; ((focus (repeat (first | exact Ev.same | apply Ev.other rfl | exact Ev.base (by assumption))))); assumption); exact rfl))
    · rename_i hlt
      have hjl : j < rs.length := by omega
      obtain ⟨g1, g2⟩ := pcells_get junk hjl
      ((apply so_ex; (apply ex_load1r; (focus (repeat (first | exact Ev.same | apply Ev.other rfl | exact Ev.base (by assumption)))); assumption; (focus (repeat (first | exact List.Mem.head _ | apply List.Mem.tail))); (first | exact g1 | exact g2)); exact rfl); (apply so_ex; (apply ex_move; ((focus (repeat (first | exact Ev.same | apply Ev.other rfl | exact Ev.base (by assumption)))))); exact rfl); (apply so_split; (apply ex_eql; ((focus (repeat (first | exact Ev.same | apply Ev.other rfl | exact Ev.base (by assumption))))); ((focus (repeat (first | exact Ev.same | apply Ev.other rfl | exact Ev.base (by assumption)))))); exact rfl; refine ⟨fun _ => ?_, fun _ => ?_⟩); (apply so_nil); (apply nm_then); (apply sc_cond_true; ((focus (repeat (first | exact Ev.same | apply Ev.other rfl | exact Ev.base (by assumption)))))); (apply sc_seq); (apply sc_region); (apply so_ex; (apply ex_move; ((focus (repeat (first | exact Ev.same | apply Ev.other rfl | exact Ev.base (by assumption)))))); exact rfl); (apply so_ex; (apply ex_nilCheck; ((focus (repeat (first | exact Ev.same | apply Ev.other rfl | exact Ev.base (by assumption)))))); exact rfl); (apply so_ex; (apply ex_fieldAddr; ((focus (repeat (first | exact Ev.same | apply Ev.other rfl | exact Ev.base (by assumption))))); assumption); exact rfl); (apply so_ex; (apply ex_load1; ((focus (repeat (first | exact Ev.same | apply Ev.other rfl | exact Ev.base (by assumption))))); assumption; ((focus (repeat (first | exact List.Mem.head _ | apply List.Mem.tail)))); ((focus (repeat (first | exact Nth.zero | apply Nth.succ))))); exact rfl); (apply so_ex; (apply ex_move; ((focus (repeat (first | exact Ev.same | apply Ev.other rfl | exact Ev.base (by assumption)))))); exact rfl); (apply so_ex; (apply ex_indexAddr; ((focus (repeat (first | exact Ev.same | apply Ev.other rfl | exact Ev.base (by assumption))))); ((focus (repeat (first | exact Ev.same | apply Ev.other rfl | exact Ev.base (by assumption))))); assumption; assumption; (first | exact rfl | exact (rfl : (0:Int) = ((0:Nat):Int)) | exact (rfl : (1:Int) = ((1:Nat):Int)) | exact (rfl : (2:Int) = ((2:Nat):Int)) | assumption); (first | assumption | omega | decide)); exact rfl); (apply so_ex; (apply ex_fieldAddr; ((focus (repeat (first | exact Ev.same | apply Ev.other rfl | exact Ev.base (by assumption))))); assumption); exact rfl); (apply so_ex; (apply ex_load1r; (focus (repeat (first | exact Ev.same | apply Ev.other rfl | exact Ev.base (by assumption)))); assumption; (focus (repeat (first | exact List.Mem.head _ | apply List.Mem.tail))); (first | exact g1 | exact g2)); exact rfl); (apply so_ex; (apply ex_assign; ((focus (repeat (first | exact Ev.same | apply Ev.other rfl | exact Ev.base (by assumption)))))); exact rfl); (apply so_nil); (apply nm_then); (apply sc_ret); (apply rt_block); (apply rt_then); (apply rt_then); (apply rt_block); (apply rt_then))
      · rename_i heq
        have e : onW rs t = (rs[j]).2 := onW_at hjl heq fun i hi => hno i (by omega) hi
        rw [e]
        ((apply ret_ok; (focus ((apply Res.tmp; (focus (repeat (first | exact Ev.same | apply Ev.other rfl | exact Ev.base (by assumption))))); exact Res.nil)); (exact ⟨rfl, rfl⟩); (focus (repeat (first | exact Sel.nil | (apply Sel.cons; (focus (repeat (first | exact Pick.here | apply Pick.there)))) | exact Sel.all | exact Sel.self | apply Sel.skip))); (focus (repeat (first | exact AppB.self | exact AppB.nil | apply AppB.cons)))))
      · rename_i hne
        ((apply so_nil); (apply nm_then); (apply sc_cond_false; ((focus (repeat (first | exact Ev.same | apply Ev.other rfl | exact Ev.base (by assumption)))))); (apply sc_skip); (apply nm_block); (apply nm_then); (apply sc_region); (apply so_ex; (apply ex_move; ((focus (repeat (first | exact Ev.same | apply Ev.other rfl | exact Ev.base (by assumption)))))); exact rfl); (apply so_ex; (apply ex_add; ((focus (repeat (first | exact Ev.same | apply Ev.other rfl | exact Ev.base (by assumption))))); ((exact Ev.const)); (first | assumption | (apply wrap_in; unfold InI; omega) | exact rfl)); exact rfl); (apply so_ex; (apply ex_assign; ((focus (repeat (first | exact Ev.same | apply Ev.other rfl | exact Ev.base (by assumption)))))); exact rfl); (apply so_nil); (apply nm_then))
        exact ⟨_, by rw [hq]; omega, j + 1, by omega, rfl, fun i hi h => by
          by_cases h2 : i = j
          · subst h2; exact hne
          · exact hno i hi (by omega), (by apply Ev.at; (focus (repeat (first | exact Ev.same | apply Ev.other rfl | exact Ev.base (by assumption))))), (by apply Ev.at; (focus (repeat (first | exact Ev.same | apply Ev.other rfl | exact Ev.base (by assumption))))), (by apply Ev.at; (focus (repeat (first | exact Ev.same | apply Ev.other rfl | exact Ev.base (by assumption))))), (by apply held; (focus (repeat (first | exact Sel.nil | (apply Sel.cons; (focus (repeat (first | exact Pick.here | apply Pick.there)))) | exact Sel.all | exact Sel.self | apply Sel.skip))); (focus (repeat (first | exact AppB.self | exact AppB.nil | apply AppB.cons))))⟩
    · rename_i hge
      have e : onW rs t = 0 := onW_none fun i hi => hno i hi (by omega)
      rw [e]
      ((apply so_nil); (apply nm_then); (apply sc_cond_false; ((focus (repeat (first | exact Ev.same | apply Ev.other rfl | exact Ev.base (by assumption)))))); (apply sc_exit); (apply et_then); (apply et_then); (apply et_hit); (apply nm_then); (apply sc_seq); (apply sc_region); (apply so_ex; (apply ex_assign; ((exact Ev.const))); exact rfl); (apply so_nil); (apply nm_then); (apply sc_ret); (apply ret_ok; (focus ((apply Res.tmp; (focus (repeat (first | exact Ev.same | apply Ev.other rfl | exact Ev.base (by assumption))))); exact Res.nil)); (exact ⟨rfl, rfl⟩); (focus (repeat (first | exact Sel.nil | (apply Sel.cons; (focus (repeat (first | exact Pick.here | apply Pick.there)))) | exact Sel.all | exact Sel.self | apply Sel.skip))); (focus (repeat (first | exact AppB.self | exact AppB.nil | apply AppB.cons)))))
end Go.Proofs.Ytbpioemenmahaaa
