/- Conflict: two pointers compared; far, gone, find. -/
import Derived.Test.YtomgkmoecbnddaaP1
import Derived.Test.YtomgkmoecbnddaaP2
import Derived.LaidEql
set_option linter.unusedVariables false
set_option linter.unusedSimpArgs false
set_option linter.unnecessarySimpa false
namespace Go.Sym
open Go
section
variable {P : Program} {E : Env} {f : Nat → Value} {L : List Blk} {ty : TypeId} {pos : String} {after : Array Edge} {d : Nat} {x y : Operand} {t e yt : TypeId} {a b : Nat} {w : World} {ag : Bool} {s : Nat}
theorem equal_ptr_same (ht : Und P t (.pointer e)) (hT : tyOf P e = some (ag, s)) (hs : Nat.ble 1 s = true) : (Op.equal t (.pointer (some ⟨a, 0, none⟩)) (.pointer (some ⟨a, 0, none⟩))).run P w = .ok true w := by
  have h1 : 1 ≤ s := Nat.le_of_ble_eq_true hs
  have h : (Op.equalIn (9999 + 1) t (.pointer (some ⟨a, 0, none⟩)) (.pointer (some ⟨a, 0, none⟩))).run P w = .ok true w := by
    have h2 : s ≠ 0 := by omega
    rw [Op.equalIn, Sem.run_bind, run_underlying ht.eq]
    simp only [Result.andThen_ok, Sem.run_bind, run_sizeT hT, ne_eq, h2, not_false_eq_true, if_true, run_sameAddr_same]
  exact h
theorem equal_ptr_other {ca cb : Array Value} {ta tb : TypeId} (ht : Und P t (.pointer e)) (hT : tyOf P e = some (ag, s)) (hs : Nat.ble 1 s = true) (hne : a ≠ b) (ha : w.heap[a]? = some (.cells ca ta (0, 0))) (hb : w.heap[b]? = some (.cells cb tb (0, 0))) : (Op.equal t (.pointer (some ⟨a, 0, none⟩)) (.pointer (some ⟨b, 0, none⟩))).run P w = .ok false w := by
  have h1 : 1 ≤ s := Nat.le_of_ble_eq_true hs
  have h : (Op.equalIn (9999 + 1) t (.pointer (some ⟨a, 0, none⟩)) (.pointer (some ⟨b, 0, none⟩))).run P w = .ok false w := by
    have h2 : s ≠ 0 := by omega
    have h3 : (⟨a, 0, none⟩ : Addr) ≠ ⟨b, 0, none⟩ := fun h => hne (by injection h)
    rw [Op.equalIn, Sem.run_bind, run_underlying ht.eq]
    simp only [Result.andThen_ok, Sem.run_bind, run_sizeT hT, ne_eq, h2, not_false_eq_true, if_true]
    exact run_sameAddr_other w h3 ha hb
  exact h
theorem ex_eqpp_t (hx : Ev f x (.pointer (some ⟨a, 0, none⟩))) (hy : Ev f y (.pointer (some ⟨a, 0, none⟩))) (ht : Und P t (.pointer e)) (hT : tyOf P e = some (ag, s)) (hs : Nat.ble 1 s = true) : Ex P E f L ⟨some d, .binOp .eql t x y yt, ty, pos, after, none⟩ (.bool true) := .mk fun w _ => run_bin_eql hx hy rfl rfl (equal_ptr_same ht hT hs)
theorem ex_nepp_f (hx : Ev f x (.pointer (some ⟨a, 0, none⟩))) (hy : Ev f y (.pointer (some ⟨a, 0, none⟩))) (ht : Und P t (.pointer e)) (hT : tyOf P e = some (ag, s)) (hs : Nat.ble 1 s = true) : Ex P E f L ⟨some d, .binOp .neq t x y yt, ty, pos, after, none⟩ (.bool false) := .mk fun w _ => run_bin_neq hx hy rfl rfl (equal_ptr_same ht hT hs)
theorem ex_eqpp_f {ca cb : Array Value} {ta tb : TypeId} (hx : Ev f x (.pointer (some ⟨a, 0, none⟩))) (hy : Ev f y (.pointer (some ⟨b, 0, none⟩))) (ht : Und P t (.pointer e)) (hT : tyOf P e = some (ag, s)) (hs : Nat.ble 1 s = true) (hne : a ≠ b) (ha : (a, .cells ca ta (0, 0)) ∈ L) (hb : (b, .cells cb tb (0, 0)) ∈ L) : Ex P E f L ⟨some d, .binOp .eql t x y yt, ty, pos, after, none⟩ (.bool false) := .mk fun w hh => run_bin_eql hx hy rfl rfl (equal_ptr_other ht hT hs hne (hh.get ha) (hh.get hb))
theorem ex_nepp_t {ca cb : Array Value} {ta tb : TypeId} (hx : Ev f x (.pointer (some ⟨a, 0, none⟩))) (hy : Ev f y (.pointer (some ⟨b, 0, none⟩))) (ht : Und P t (.pointer e)) (hT : tyOf P e = some (ag, s)) (hs : Nat.ble 1 s = true) (hne : a ≠ b) (ha : (a, .cells ca ta (0, 0)) ∈ L) (hb : (b, .cells cb tb (0, 0)) ∈ L) : Ex P E f L ⟨some d, .binOp .neq t x y yt, ty, pos, after, none⟩ (.bool true) := .mk fun w hh => run_bin_neq hx hy rfl rfl (equal_ptr_other ht hT hs hne (hh.get ha) (hh.get hb))
end
end Go.Sym
namespace Go.Proofs.Ytomgkmoecbnddaa
open Go.Sym
/-- the cells of a node -/
def Nd.cells (n : Nd) (mi mo sv : Value) : List Value := [.int .i64 n.id, .int .i64 n.begin_, .int .i64 n.state, .int .i64 n.seq, .bool n.ro, .bool n.dm, mi, mo, .int .i64 n.reach, .int .i64 n.least, sv]
theorem far_tri {b : Nat} {n : Nd} {mi mo sv : Value} (hs : n.begin_ < 4611686018427387903 ∧ n.seq < 4611686018427387903 ∧ 0 ≤ n.begin_ ∧ 0 ≤ n.seq) : TriQ Try.prog 38 #[.pointer (some ⟨b, 0, none⟩)] [(b, .cells (n.cells mi mo sv).toArray 72)] (.int .i64 n.far) := by
  have f_mixed := mixed; have f_fo72_1 := fo72_1; have f_fo72_2 := fo72_2; have f_fo72_3 := fo72_3; have f_fo72_4 := fo72_4; have f_ty3 := ty3; have f_ty4 := ty4
  obtain ⟨id, bg, st, sq, ro, dm, ins, outs, rc, ls, bs⟩ := n
  simp only at hs
  refine tri_intro (args := [_]) Try.func38 rfl Try.ntmps38 rfl (rs := _) rfl rfl fun E R => ?_
  simp only [fr, Nd.cells, Nd.far, List.cons_append, List.nil_append]
  cases ro with
  | true => (refine sr_ ?_; (refine ac_ ?_); refine sn_ ?_; (apply sc_seq); (apply sc_block); refine sr_ ?_; (refine mv_ ?_); (refine se_ (ex_nilCheck ev_) ?_); (refine se_ (ex_fieldAddr ev_ asm_) ?_); (refine se_ (ex_load1 ev_ asm_ mem_ nth_) ?_); (refine asg_ ?_); refine sn_ ?_; (refine ct_ ?_); refine sr_ ?_; (refine mv_ ?_); (refine se_ (ex_nilCheck ev_) ?_); (refine se_ (ex_fieldAddr ev_ asm_) ?_); (refine se_ (ex_load1 ev_ asm_ mem_ nth_) ?_); (refine se_ (ex_add ev_ .const wr_) ?_); (refine asg_ ?_); refine sn_ ?_; (apply sc_ret); (apply rt_block); (apply rt_then); (apply ret_ok; (focus ((apply Res.tmp; (exact ev_)); exact Res.nil)); (exact ⟨rfl, rfl⟩); (exact sel_); (exact appb_)))
  | false =>
    by_cases h : st = 2
    · rw [if_neg (by simp), if_pos h]
      (refine sr_ ?_; (refine ac_ ?_); refine sn_ ?_; (apply sc_seq); (apply sc_block); refine sr_ ?_; (refine mv_ ?_); (refine se_ (ex_nilCheck ev_) ?_); (refine se_ (ex_fieldAddr ev_ asm_) ?_); (refine se_ (ex_load1 ev_ asm_ mem_ nth_) ?_); (refine asg_ ?_); refine sn_ ?_; (refine cf_ ?_); refine sr_ ?_; (refine mv_ ?_); (refine se_ (ex_nilCheck ev_) ?_); (refine se_ (ex_fieldAddr ev_ asm_) ?_); (refine se_ (ex_load1 ev_ asm_ mem_ nth_) ?_); (refine se_ (ex_eql_t ev_ .const om_) ?_); (refine asg_ ?_); refine sn_ ?_; (refine ct_ ?_); refine sr_ ?_; (refine mv_ ?_); (refine se_ (ex_nilCheck ev_) ?_); (refine se_ (ex_fieldAddr ev_ asm_) ?_); (refine se_ (ex_load1 ev_ asm_ mem_ nth_) ?_); (refine se_ (ex_add ev_ .const wr_) ?_); (refine asg_ ?_); refine sn_ ?_; (apply sc_ret); (apply rt_block); (apply rt_then); (apply ret_ok; (focus ((apply Res.tmp; (exact ev_)); exact Res.nil)); (exact ⟨rfl, rfl⟩); (exact sel_); (exact appb_)))
    · rw [if_neg (by simp), if_neg h]
      (refine sr_ ?_; (refine ac_ ?_); refine sn_ ?_; (apply sc_seq); (apply sc_block); refine sr_ ?_; (refine mv_ ?_); (refine se_ (ex_nilCheck ev_) ?_); (refine se_ (ex_fieldAddr ev_ asm_) ?_); (refine se_ (ex_load1 ev_ asm_ mem_ nth_) ?_); (refine asg_ ?_); refine sn_ ?_; (refine cf_ ?_); refine sr_ ?_; (refine mv_ ?_); (refine se_ (ex_nilCheck ev_) ?_); (refine se_ (ex_fieldAddr ev_ asm_) ?_); (refine se_ (ex_load1 ev_ asm_ mem_ nth_) ?_); (refine se_ (ex_eql_f ev_ .const om_) ?_); (refine asg_ ?_); refine sn_ ?_; (refine cf_ ?_); (apply sc_skip); (apply nm_block); (apply nm_then); refine sr_ ?_; (refine ac_ ?_); refine sn_ ?_; (apply sc_ret); (apply ret_ok; (focus ((apply Res.tmp; (exact ev_)); exact Res.nil)); (exact ⟨rfl, rfl⟩); (exact sel_); (exact appb_)))
theorem gone_tri {b : Nat} {n : Nd} {mi mo sv : Value} : TriQ Try.prog 51 #[.pointer (some ⟨b, 0, none⟩)] [(b, .cells (n.cells mi mo sv).toArray 72)] (.bool n.gone) := by
  have f_mixed := mixed; have f_fo72_2 := fo72_2; have f_fo72_5 := fo72_5; have f_ty3 := ty3; have f_ty4 := ty4
  obtain ⟨id, bg, st, sq, ro, dm, ins, outs, rc, ls, bs⟩ := n
  refine tri_intro (args := [_]) Try.func51 rfl Try.ntmps51 rfl (rs := _) rfl rfl fun E R => ?_
  simp only [fr, Nd.cells, Nd.gone, List.cons_append, List.nil_append]
  by_cases h : st = 0
  · rw [decide_eq_true h, Bool.true_and]
    (refine sr_ ?_; (refine ac_ ?_); refine sn_ ?_; refine sr_ ?_; (refine mv_ ?_); (refine se_ (ex_nilCheck ev_) ?_); (refine se_ (ex_fieldAddr ev_ asm_) ?_); (refine se_ (ex_load1 ev_ asm_ mem_ nth_) ?_); (refine se_ (ex_eql_t ev_ .const om_) ?_); (refine mv_ ?_); (refine wt_ ?_); (refine mv_ ?_); (refine wt_ ?_); (refine se_ (ex_nilCheck ev_) ?_); (refine wt_ ?_); (refine se_ (ex_fieldAddr ev_ asm_) ?_); (refine wt_ ?_); (refine se_ (ex_load1 ev_ asm_ mem_ nth_) ?_); (refine se_ (ex_pick_t ev_ ev_) ?_); (refine asg_ ?_); refine sn_ ?_; (apply sc_ret); (apply ret_ok; (focus ((apply Res.tmp; (exact ev_)); exact Res.nil)); (exact ⟨rfl, rfl⟩); (exact sel_); (exact appb_)))
  · rw [decide_eq_false h, Bool.false_and]
    (refine sr_ ?_; (refine ac_ ?_); refine sn_ ?_; refine sr_ ?_; (refine mv_ ?_); (refine se_ (ex_nilCheck ev_) ?_); (refine se_ (ex_fieldAddr ev_ asm_) ?_); (refine se_ (ex_load1 ev_ asm_ mem_ nth_) ?_); (refine se_ (ex_eql_f ev_ .const om_) ?_); (refine mv_ ?_); (refine sk_ ?_); (refine sk_ ?_); (refine sk_ ?_); (refine sk_ ?_); (refine se_ (ex_pick_f ev_ .const) ?_); (refine asg_ ?_); refine sn_ ?_; (apply sc_ret); (apply ret_ok; (focus ((apply Res.tmp; (exact ev_)); exact Res.nil)); (exact ⟨rfl, rfl⟩); (exact sel_); (exact appb_)))
end Go.Proofs.Ytomgkmoecbnddaa
