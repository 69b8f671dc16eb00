/- Conflict: the store of ConflictAlone: its cells; place. -/
import Derived.Test.YtomgkmoecbnddaaS5
set_option linter.unusedVariables false
set_option linter.unusedSimpArgs false
set_option linter.unnecessarySimpa false
namespace Go.Proofs.Ytomgkmoecbnddaa
open Go.Sym

/-- 89 cells -/
def mc (F : Nat → Value) : List Value := (List.range 89).map F
def upF (F : Nat → Value) (k : Nat) (v : Value) : Nat → Value := fun i => if i = k then v else F i
theorem upF_eq (F : Nat → Value) (k : Nat) (v : Value) : upF F k v k = v := if_pos rfl
theorem upF_ne (F : Nat → Value) {k i : Nat} (v : Value) (h : i ≠ k) : upF F k v i = F i := if_neg h
theorem mc_get (F : Nat → Value) {k : Nat} (h : k < 89) : (mc F)[k]? = some (F k) := by
  unfold mc
  rw [List.getElem?_map, List.getElem?_range h]; rfl
theorem mc_len (F : Nat → Value) : (mc F).length = 89 := by unfold mc; simp
theorem mc_set (F : Nat → Value) {k : Nat} (v : Value) (h : k < 89) : mc (upF F k v) = (mc F).take k ++ [v] ++ (mc F).drop (k + [v].length) := by
  apply List.ext_getElem?
  intro i
  by_cases hi : i < 89
  · rw [mc_get _ hi]
    rw [List.append_assoc, List.getElem?_append]
    have hl : ((mc F).take k).length = k := by rw [List.length_take, mc_len]; omega
    rw [hl]
    by_cases h1 : i < k
    · rw [if_pos h1, List.getElem?_take_of_lt h1, mc_get _ hi, upF_ne _ _ (by omega)]
    · rw [if_neg h1]
      by_cases h2 : i = k
      · subst h2; rw [upF_eq, Nat.sub_self]; rfl
      · rw [upF_ne _ _ h2, List.getElem?_append_right (by simp; omega), List.getElem?_drop]
        have : k + [v].length + (i - k - [v].length) = i := by simp; omega
        rw [this, mc_get _ hi]
  · have e1 : (mc (upF F k v))[i]? = none := List.getElem?_eq_none (by rw [mc_len]; omega)
    rw [e1]
    symm
    apply List.getElem?_eq_none
    simp only [List.length_append, List.length_take, List.length_drop, mc_len, List.length_singleton]
    omega
attribute [irreducible] mc
/-- the place of a number in a list, or its length -/
def plc : List Int → Int → Nat
  | [], _ => 0
  | x :: l, n => if x = n then 0 else plc l n + 1
theorem plc_lt {n : Int} : ∀ {l : List Int}, n ∈ l → plc l n < l.length
  | [], h => by cases h
  | x :: l, h => by
    unfold plc
    split
    · simp
    · rename_i hx
      have := plc_lt (l := l) ((List.mem_cons.1 h).resolve_left (Ne.symm hx))
      simp; omega
theorem plc_at {n : Int} : ∀ {l : List Int} {i : Nat} (h : i < l.length), l[i] = n → (∀ x ∈ l.take i, x ≠ n) → plc l n = i
  | x :: l, 0, _, h1, _ => by unfold plc; exact if_pos h1
  | x :: l, i + 1, h, h1, h2 => by
    unfold plc
    rw [if_neg (h2 x (by simp)), plc_at (l := l) (i := i) (by simpa using h) h1 fun y hy => h2 y (by simp [hy])]
theorem plc_no {n : Int} : ∀ {l : List Int}, (∀ x ∈ l, x ≠ n) → plc l n = l.length
  | [], _ => rfl
  | x :: l, h => by
    unfold plc
    rw [if_neg (h x (List.mem_cons_self ..)), plc_no fun y hy => h y (List.mem_cons_of_mem _ hy)]; rfl
theorem place_tri {zs : List Int} {v : Value} {B : List Blk} {n : Int} (hz : SlI zs v B) (hl : zs.length ≤ 1000000) :
    TriQ Try.prog 49 #[v, .int .i64 n] B (.int .i64 (plc zs n : Int)) := by
  have f_mixed := mixed; have f_by3 := by3; have f_ty25 := ty25; have f_ty3 := ty3; have f_un_25 : Und Try.prog 25 _ := ⟨Try.underlying25⟩; have f_zero3 := zero3; have f_zv3 := zv3
  obtain ⟨po, cap, hform⟩ := hz.form
  subst hform
  refine tri_intro (args := [_, _]) Try.func49 rfl Try.ntmps49 rfl (rs := _) rfl rfl fun E R => ?_
  simp only [fr]
  (apply sc_seq; apply sc_region; (apply so_ex; (apply ex_assign; ((exact Ev.const))); exact rfl); apply so_nil; apply nm_then; (apply sc_seq); apply sc_seq; apply sc_region; (apply so_ex; (apply ex_assign; ((exact Ev.const))); exact rfl); apply so_nil; apply nm_then; (apply sc_block))
  refine sc_loop (fun k f L => ∃ i : Nat, k = zs.length - i ∧ i ≤ zs.length ∧ (∀ x ∈ zs.take i, x ≠ n) ∧ At f 0 (.slice po zs.length cap) ∧ At f 1 (.int .i64 n) ∧ At f 5 (.int .i64 (i : Int)) ∧ Held L B R)
    _ ⟨0, rfl, Nat.zero_le _, by simp, (by apply Ev.at; (exact ev_)), (by apply Ev.at; (exact ev_)), (by apply Ev.at; (exact ev_)), (by apply held; (exact sel_); (exact appb_))⟩ ?_
  rintro k f L ⟨i, hk, hi, hno, a0, a1, a5, ⟨G, hG⟩⟩
  refine sc_perm hG ?_
  by_cases hlt : i < zs.length
  · have hlt' : (i : Int) < (zs.length : Int) := by omega
    have e1 : ((i + 1 : Nat) : Int) = (i : Int) + 1 := by omega
    rcases hz with ⟨h0, _⟩ | ⟨b5, cap5, junk5, h0, hv5, hj5, rfl⟩
    · rw [h0] at hlt; exact absurd hlt (Nat.not_lt_zero _)
    injection hv5 with hv5 _ _
    subst hv5
    simp only [List.cons_append, List.nil_append]
    have hnth := zs_nth (junk := junk5) hlt
    have htk : zs.take (i + 1) = zs.take i ++ [zs[i]] := List.take_succ_eq_append_getElem hlt
    by_cases he : zs[i] = n
    · rw [plc_at hlt he hno]
      ((apply sc_seq); apply sc_seq; apply sc_region; (apply so_ex; (apply ex_move; (exact ev_)); exact rfl); (apply so_ex; (apply ex_move; (exact ev_)); exact rfl); (apply so_ex; (apply ex_len_slice; (exact ev_); assumption); exact rfl); (apply so_ex; (apply ex_lss_t; (exact ev_); (exact ev_); (first | assumption | omega)); exact rfl); apply so_nil; apply nm_then; (apply sc_cond_true; (exact ev_)); (apply sc_skip); (apply nm_then); (apply sc_seq); (apply sc_block); apply sc_seq; apply sc_region; (apply so_ex; (apply ex_move; (exact ev_)); exact rfl); (apply so_ex; (apply ex_move; (exact ev_)); exact rfl); (apply so_ex; (apply ex_indexAddr; (exact ev_); (exact ev_); assumption; assumption; (first | exact rfl | exact (rfl : (0:Int) = ((0:Nat):Int)) | exact (rfl : (1:Int) = ((1:Nat):Int)) | exact (rfl : (2:Int) = ((2:Nat):Int)) | assumption); (first | assumption | omega | decide)); exact rfl); (apply so_ex; (apply ex_load1r; (exact ev_); assumption; (exact mem_); exact hnth); exact rfl); (apply so_ex; (apply ex_move; (exact ev_)); exact rfl); (apply so_ex; (apply ex_eql_t; (exact ev_); (exact ev_); (first | assumption | omega)); exact rfl); apply so_nil; apply nm_then; (apply sc_cond_true; (exact ev_)); apply sc_seq; apply sc_region; (apply so_ex; (apply ex_move; (exact ev_)); exact rfl); (apply so_ex; (apply ex_assign; (exact ev_)); exact rfl); apply so_nil; apply nm_then; (apply sc_ret); (apply rt_block); (apply rt_then); (apply rt_then); (apply rt_block); (apply rt_then); (apply ret_ok; (focus ((apply Res.tmp; (exact ev_)); exact Res.nil)); (exact ⟨rfl, rfl⟩); (exact sel_); (exact appb_)))
    · ((apply sc_seq); apply sc_seq; apply sc_region; (apply so_ex; (apply ex_move; (exact ev_)); exact rfl); (apply so_ex; (apply ex_move; (exact ev_)); exact rfl); (apply so_ex; (apply ex_len_slice; (exact ev_); assumption); exact rfl); (apply so_ex; (apply ex_lss_t; (exact ev_); (exact ev_); (first | assumption | omega)); exact rfl); apply so_nil; apply nm_then; (apply sc_cond_true; (exact ev_)); (apply sc_skip); (apply nm_then); (apply sc_seq); (apply sc_block); apply sc_seq; apply sc_region; (apply so_ex; (apply ex_move; (exact ev_)); exact rfl); (apply so_ex; (apply ex_move; (exact ev_)); exact rfl); (apply so_ex; (apply ex_indexAddr; (exact ev_); (exact ev_); assumption; assumption; (first | exact rfl | exact (rfl : (0:Int) = ((0:Nat):Int)) | exact (rfl : (1:Int) = ((1:Nat):Int)) | exact (rfl : (2:Int) = ((2:Nat):Int)) | assumption); (first | assumption | omega | decide)); exact rfl); (apply so_ex; (apply ex_load1r; (exact ev_); assumption; (exact mem_); exact hnth); exact rfl); (apply so_ex; (apply ex_move; (exact ev_)); exact rfl); (apply so_ex; (apply ex_eql_f; (exact ev_); (exact ev_); (first | assumption | omega)); exact rfl); apply so_nil; apply nm_then; (apply sc_cond_false; (exact ev_)); (apply sc_skip); (apply nm_block); (apply nm_then); (apply sc_region); (apply so_ex; (apply ex_move; (exact ev_)); exact rfl); (apply so_ex; (apply ex_add; (exact ev_); ((exact Ev.const)); (first | assumption | (apply wrap_in; unfold InI; omega) | exact rfl)); exact rfl); (apply so_ex; (apply ex_assign; (exact ev_)); exact rfl); (apply so_nil); (apply nm_then))
      refine ⟨zs.length - (i + 1), by omega, i + 1, rfl, by omega, ?_, (by apply Ev.at; (exact ev_)), (by apply Ev.at; (exact ev_)), by rw [e1]; exact (by apply Ev.at; (exact ev_)), (by apply held; (exact sel_); (exact appb_))⟩
      intro x hx
      rw [htk] at hx
      rcases List.mem_append.1 hx with h | h
      · exact hno x h
      · rw [List.mem_singleton.1 h]; exact he
  · have hlt' : ¬ (i : Int) < (zs.length : Int) := by omega
    obtain rfl : i = zs.length := by omega
    rw [List.take_length] at hno
    rw [plc_no hno]
    ((apply sc_seq); apply sc_seq; apply sc_region; (apply so_ex; (apply ex_move; (exact ev_)); exact rfl); (apply so_ex; (apply ex_move; (exact ev_)); exact rfl); (apply so_ex; (apply ex_len_slice; (exact ev_); assumption); exact rfl); (apply so_ex; (apply ex_lss_f; (exact ev_); (exact ev_); (first | assumption | omega)); exact rfl); apply so_nil; apply nm_then; (apply sc_cond_false; (exact ev_)); (apply sc_exit); (apply et_then); (apply et_then); (apply et_hit); (apply nm_then); apply sc_seq; apply sc_region; (apply so_ex; (apply ex_move; (exact ev_)); exact rfl); (apply so_ex; (apply ex_len_slice; (exact ev_); assumption); exact rfl); (apply so_ex; (apply ex_assign; (exact ev_)); exact rfl); apply so_nil; apply nm_then; (apply sc_ret); (apply ret_ok; (focus ((apply Res.tmp; (exact ev_)); exact Res.nil)); (exact ⟨rfl, rfl⟩); (exact sel_); (exact appb_)))
end Go.Proofs.Ytomgkmoecbnddaa
