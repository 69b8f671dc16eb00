/- Conflict: slices.Contains over pointers to nodes. -/
import Derived.Test.YtomgkmoecbnddaaQ9
set_option linter.unusedVariables false
set_option linter.unusedSimpArgs false
set_option linter.unnecessarySimpa false
namespace Go.Proofs.Ytomgkmoecbnddaa
open Go.Sym

/-- nodes as a slice of pointers -/
def pcells (ρ : Int → Raw) (vs : List Int) : List Value := vs.map fun k => ptrB (ρ k).b
def SlP (ρ : Int → Raw) (vs : List Int) (v : Value) (B : List Blk) : Prop :=
  (vs = [] ∧ v = .slice none 0 0 ∧ B = []) ∨ ∃ (b cap : Nat) (junk : List Value), vs ≠ [] ∧ v = .slice (some ⟨b, 0, none⟩) vs.length cap ∧ (pcells ρ vs ++ junk).length = cap ∧ B = [(b, .cells (pcells ρ vs ++ junk).toArray 69)]
theorem SlP.form {ρ : Int → Raw} {vs : List Int} {v : Value} {B : List Blk} (h : SlP ρ vs v B) : ∃ po cap, v = .slice po vs.length cap := by
  rcases h with ⟨rfl, rfl, _⟩ | ⟨b, cap, junk, _, rfl, _, _⟩
  · exact ⟨_, _, rfl⟩
  · exact ⟨_, _, rfl⟩
theorem p_nth (ρ : Int → Raw) (junk : List Value) {vs : List Int} {i : Nat} (h : i < vs.length) : (pcells ρ vs ++ junk)[0 + i * 1]? = some (.pointer (some ⟨(ρ vs[i]).b, 0, none⟩)) := by
  unfold pcells
  rw [Nat.zero_add, Nat.mul_one, List.getElem?_append_left (by simpa using h)]
  simp [h, ptrB]
theorem index_tri {ρ : Int → Raw} {l : List Nd} {vs : List Int} {v : Value} {B : List Blk} {n : Nd} (hv : SlP ρ vs v B) (hn : n ∈ l) (hin : ∀ k ∈ vs, ∃ m ∈ l, m.id = k) (hb : vs.length ≤ 1000000000) (hd : ((NC ρ l).map (·.1)).Nodup) :
    Tri Try.prog 52 #[v, .pointer (some ⟨(ρ n.id).b, 0, none⟩)] (B ++ NC ρ l) fun u L => (∃ r : Int, u = .int .i64 r ∧ (0 ≤ r ↔ n.id ∈ vs)) ∧ L = B ++ NC ρ l := by
  have f_mixed := mixed; have f_by69 := by69; have f_ty69 := ty69; have f_ty81 := ty81; have f_un_69 : Und Try.prog 69 _ := ⟨Try.underlying69⟩; have f_un_81 : Und Try.prog 81 _ := ⟨Try.underlying81⟩; have f_zero69 := zero69; have f_zv69 := zv69
  have f_ty72 : tyOf Try.prog 72 = some (true, 11) := by kernel_rfl
  have hnc := nb_cell (ρ := ρ) hn
  obtain ⟨po, cap, hform⟩ := hv.form
  subst hform
  refine tri_intro (args := [_, _]) Try.func52 rfl Try.ntmps52 rfl (rs := _) rfl rfl fun E R => ?_
  simp only [fr, List.append_assoc]
  (refine sr_ ?_; (refine ac_ ?_); refine sn_ ?_; (apply sc_seq); refine sr_ ?_; (refine mv_ ?_); (refine se_ (ex_len_slice ev_ asm_) ?_); (refine se_ (ex_move .const) ?_); refine sn_ ?_; (apply sc_block))
  refine sc_loop (fun k f L => ∃ i : Nat, k = vs.length - i ∧ i ≤ vs.length ∧ (∀ x ∈ vs.take i, x ≠ n.id) ∧ At f 0 (.slice po vs.length cap) ∧ At f 1 (.pointer (some ⟨(ρ n.id).b, 0, none⟩)) ∧ At f 7 (.int .i64 (vs.length : Int)) ∧ At f 8 (.int .i64 (i : Int)) ∧ Held L (B ++ NC ρ l) R)
    _ ⟨0, rfl, Nat.zero_le _, by simp, at_, at_, at_, at_, held_⟩ ?_
  rintro k f L ⟨i, hk, hi, hno, a0, a1, a7, a8, ⟨G, hG⟩⟩
  refine sc_perm hG ?_
  simp only [List.append_assoc]
  by_cases hlt : i < vs.length
  · have hlt' : (i : Int) < (vs.length : Int) := by omega
    have e1 : ((i + 1 : Nat) : Int) = (i : Int) + 1 := by omega
    rcases hv with ⟨h0, _⟩ | ⟨b5, cap5, junk5, h0, hv5, hj5, rfl⟩
    · rw [h0] at hlt; exact absurd hlt (Nat.not_lt_zero _)
    injection hv5 with hv5 _ _
    subst hv5
    simp only [List.cons_append, List.nil_append]
    have hnth := p_nth ρ junk5 hlt
    have htk : vs.take (i + 1) = vs.take i ++ [vs[i]] := List.take_succ_eq_append_getElem hlt
    obtain ⟨m, hm, hmi⟩ := hin _ (List.getElem_mem hlt)
    have hmv : vs[i] ∈ vs := List.getElem_mem hlt
    rw [← hmi] at hnth htk hmv
    have hmc := nb_cell (ρ := ρ) hm
    by_cases he : n.id = m.id
    · rw [← he] at hnth hmv
      (refine sr_ ?_; (refine se_ (ex_lss_t ev_ ev_ om_) ?_); refine sn_ ?_; (apply sc_seq); (refine ct_ ?_); (apply sc_skip); (apply nm_then); (apply sc_seq); (apply sc_block); refine sr_ ?_; (refine mv_ ?_); (refine asg_ ?_); refine sn_ ?_; refine sr_ ?_; (refine mv_ ?_); (refine mv_ ?_); (refine mv_ ?_); (refine se_ (ex_indexAddr ev_ ev_ asm_ asm_ lit_ lt_) ?_); (apply so_ex; (apply ex_load1r; (exact ev_); assumption; (exact mem_); exact hnth); exact rfl); (apply so_ex; (apply ex_eqpp_t; (exact ev_); (exact ev_); assumption; assumption; exact rfl); exact rfl); refine sn_ ?_; (refine ct_ ?_); refine sr_ ?_; (refine mv_ ?_); (refine asg_ ?_); refine sn_ ?_; (apply sc_ret); (apply rt_block); (apply rt_then); (apply rt_then); (apply rt_block); (apply rt_then); (apply ret_ok; (focus ((apply Res.tmp; (exact ev_)); exact Res.nil)); (exact ⟨⟨(i : Int), rfl, ⟨fun _ => hmv, fun _ => by omega⟩⟩, rfl⟩); (exact sel_); (exact appb_)))
    · have hbne : (ρ n.id).b ≠ (ρ m.id).b := fun e => he (congrArg Nd.id (nb_inj hd hn hm e))
      (refine sr_ ?_; (refine se_ (ex_lss_t ev_ ev_ om_) ?_); refine sn_ ?_; (apply sc_seq); (refine ct_ ?_); (apply sc_skip); (apply nm_then); (apply sc_seq); (apply sc_block); refine sr_ ?_; (refine mv_ ?_); (refine asg_ ?_); refine sn_ ?_; refine sr_ ?_; (refine mv_ ?_); (refine mv_ ?_); (refine mv_ ?_); (refine se_ (ex_indexAddr ev_ ev_ asm_ asm_ lit_ lt_) ?_); (apply so_ex; (apply ex_load1r; (exact ev_); assumption; (exact mem_); exact hnth); exact rfl); (apply so_ex; (apply ex_eqpp_f; (exact ev_); (exact ev_); assumption; assumption; exact rfl; exact hbne; (exact mem_); (exact mem_)); exact rfl); refine sn_ ?_; (refine cf_ ?_); (apply sc_skip); (apply nm_block); (apply nm_then); (apply sc_region); (refine se_ (ex_add ev_ .const wr_) ?_); (refine mv_ ?_); (apply so_nil); (apply nm_then))
      refine ⟨vs.length - (i + 1), by omega, i + 1, rfl, by omega, ?_, at_, at_, at_, by rw [e1]; exact at_, held_⟩
      intro x hx
      rw [htk] at hx
      rcases List.mem_append.1 hx with h | h
      · exact hno x h
      · rw [List.mem_singleton.1 h]; exact Ne.symm he
  · have hlt' : ¬ (i : Int) < (vs.length : Int) := by omega
    obtain rfl : i = vs.length := by omega
    rw [List.take_length] at hno
    (refine sr_ ?_; (refine se_ (ex_lss_f ev_ ev_ om_) ?_); refine sn_ ?_; (apply sc_seq); (refine cf_ ?_); (apply sc_exit); (apply et_then); (apply et_then); (apply et_hit); (apply nm_then); refine sr_ ?_; (refine ac_ ?_); refine sn_ ?_; (apply sc_ret); (apply ret_ok; (focus ((apply Res.tmp; (exact ev_)); exact Res.nil)); (exact ⟨⟨-1, rfl, ⟨fun h => absurd h (by decide), fun h => absurd rfl (hno _ h)⟩⟩, rfl⟩); (exact sel_); (exact appb_)))
theorem contains_tri {ρ : Int → Raw} {l : List Nd} {vs : List Int} {v : Value} {B : List Blk} {n : Nd} (hv : SlP ρ vs v B) (hn : n ∈ l) (hin : ∀ k ∈ vs, ∃ m ∈ l, m.id = k) (hb : vs.length ≤ 1000000000) :
    TriQ Try.prog 37 #[v, .pointer (some ⟨(ρ n.id).b, 0, none⟩)] (B ++ NC ρ l) (.bool (decide (n.id ∈ vs))) := by
  have f_mixed := mixed; have f_en52 := en52
  refine tri_nd fun hnd => ?_
  have hd : ((NC ρ l).map (·.1)).Nodup := by rw [List.map_append, List.nodup_append] at hnd; exact hnd.2.1
  have hix := index_tri hv hn hin hb hd
  obtain ⟨po, cap, hform⟩ := hv.form
  subst hform
  refine tri_intro (args := [_, _]) Try.func37 rfl Try.ntmps37 rfl (rs := _) rfl rfl fun E R => ?_
  simp only [fr, List.append_assoc]
  (refine sr_ ?_; (refine ac_ ?_); refine sn_ ?_; refine sr_ ?_; (refine mv_ ?_); (refine mv_ ?_))
  (apply so_call; (exact Ev.func); (focus ((apply EvL.cons; (exact ev_)); (apply EvL.cons; (exact ev_)); exact EvL.nil)); (focus (repeat (first | exact App.nil | apply App.cons))); assumption; (exact hix); (exact sel_); exact rfl)
  rintro u L ⟨⟨r, rfl, hr⟩, rfl⟩
  simp only [List.append_assoc]
  by_cases h : n.id ∈ vs
  · have hr0 := hr.2 h
    rw [decide_eq_true h]
    ((refine se_ (ex_geq_t ev_ .const om_) ?_); (refine asg_ ?_); refine sn_ ?_; (apply sc_ret); (apply ret_ok; (focus ((apply Res.tmp; (exact ev_)); exact Res.nil)); (exact ⟨rfl, rfl⟩); (exact sel_); (exact appb_)))
  · have hr0 : ¬ 0 ≤ r := fun e => h (hr.1 e)
    rw [decide_eq_false h]
    ((refine se_ (ex_geq_f ev_ .const om_) ?_); (refine asg_ ?_); refine sn_ ?_; (apply sc_ret); (apply ret_ok; (focus ((apply Res.tmp; (exact ev_)); exact Res.nil)); (exact ⟨rfl, rfl⟩); (exact sel_); (exact appb_)))
end Go.Proofs.Ytomgkmoecbnddaa
