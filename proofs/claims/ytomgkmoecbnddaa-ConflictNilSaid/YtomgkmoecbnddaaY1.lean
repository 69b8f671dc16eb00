/- Conflict: the reference's reads by its memory; alike. -/
import Derived.Test.YtomgkmoecbnddaaX1
import Derived.Test.YtomgkmoecbnddaaVc
import Derived.Test.YtomgkmoecbnddaaVd
set_option linter.unusedVariables false
set_option linter.unusedSimpArgs false
set_option linter.unnecessarySimpa false
namespace Go.Proofs.Ytomgkmoecbnddaa
open Go.Sym
theorem ex_nebs {P : Program} {E : Env} {f : Nat → Value} {L : List Blk} {ty t yt : TypeId} {pos : String} {after : Array Edge} {d : Nat} {x y : Operand} {b : Bool} (hx : Ev f x (.bool b)) (hy : Ev f y (.bool b)) (ht : Und P t .bool) : Ex P E f L ⟨some d, .binOp .neq t x y yt, ty, pos, after, none⟩ (.bool false) := ex_neb hx hy ht (by cases b <;> rfl)
theorem doomRR {K : Nat} {g : RG} {p : Nat} {L : List Blk} (h : RRep K g p L) (k : Int) : TriQ Try.prog 47 #[.pointer (some ⟨p, 0, none⟩), .int .i64 k] L (.bool (g.isDoomed k)) := by
  obtain ⟨ol, cl, oe, ce, sv, BL, BE, BB, rfl, h⟩ := h
  exact dmR_tri (row_tx h.l (BE ++ BB)) (by have := h.sl; have := h.k; omega) k
theorem liveRR {K : Nat} {g : RG} {p : Nat} {L : List Blk} (h : RRep K g p L) (k : Int) : TriQ Try.prog 48 #[.pointer (some ⟨p, 0, none⟩), .int .i64 k] L (.bool (g.isLive k)) := by
  obtain ⟨ol, cl, oe, ce, sv, BL, BE, BB, rfl, h⟩ := h
  exact lvR_tri (row_tx h.l (BE ++ BB)) (by have := h.sl; have := h.k; omega) k
theorem actRR {K : Nat} {g : RG} {p : Nat} {L : List Blk} (h : RRep K g p L) : TriQ Try.prog 21 #[.pointer (some ⟨p, 0, none⟩)] L (.int .i64 (g.active : Int)) := by
  obtain ⟨ol, cl, oe, ce, sv, BL, BE, BB, rfl, h⟩ := h
  exact actR_tri (row_tx h.l (BE ++ BB)) (by have := h.sl; have := h.k; omega)
theorem safeRR {K : Nat} {g : RG} {p : Nat} {L : List Blk} (h : RRep K g p L) (hok : ROk g) (k : Int) : TriQ Try.prog 46 #[.pointer (some ⟨p, 0, none⟩), .int .i64 k] L (.tuple #[.bool (g.safe k).1, .bool (g.safe k).2]) := by
  obtain ⟨ol, cl, oe, ce, sv, BL, BE, BB, rfl, h⟩ := h
  have hsl := h.sl
  have hse := h.se
  have hk := h.k
  refine safeR_tri (row_tx h.l (BE ++ BB)) (row_ed h.e BL BB) (fun x hx => ?_) (fun e he => (hok.ed e he).2.2) (by omega) (by omega) k
  obtain ⟨k1, k2, k3⟩ := h.b x hx
  exact ⟨fun hp => by obtain ⟨b, junk, ho, hm⟩ := k1 hp; exact ⟨b, junk, ho, List.mem_append_right _ (List.mem_append_right _ hm)⟩, k2, by omega⟩
theorem alike_tri {K K' : Nat} {g : Gr} {r : RG} {p q : Nat} {L1 L2 : List Blk} (hG : GRep K g p L1) (hR : RRep K' r q L2) (hC : Cp g r) (hn : r.n ≤ 1000000) : TriQ Try.prog 22 #[.pointer (some ⟨p, 0, none⟩), .pointer (some ⟨q, 0, none⟩)] (L1 ++ L2) (.bool true) := by
  have f_mixed := mixed; have f_en17 := en17; have f_en18 := en18; have f_en24 := en24; have f_en46 := en46; have f_en47 := en47; have f_en48 := en48; have f_un_4 : Und Try.prog 4 _ := ⟨Try.underlying4⟩
  have hbl : ∀ n ∈ g.nodes, n.beside.length ≤ 1000000 := fun n hn => by obtain ⟨x, _, M⟩ := hC.mt hn; exact M.bl
  refine tri_intro (args := [_, _]) Try.func22 rfl Try.ntmps22 rfl (rs := _) rfl rfl fun E R => ?_
  simp only [fr, List.append_assoc]
  (refine sr_ ?_; (refine ac_ ?_); refine sn_ ?_; (apply sc_seq); refine sr_ ?_; (refine ac_ ?_); refine sn_ ?_; (apply sc_block))
  refine sc_loop (fun k f L => ∃ j : Nat, j ≤ 14 ∧ k = 14 - j ∧ At f 0 (.pointer (some ⟨p, 0, none⟩)) ∧ At f 1 (.pointer (some ⟨q, 0, none⟩)) ∧ At f 5 (.int .i64 (j : Int)) ∧ Held L (L1 ++ L2) R)
    _ ⟨0, by omega, rfl, at_, at_, at_, ⟨[], by simp⟩⟩ ?_
  rintro k f L ⟨j, hj, hk, a0, a1, a5, ⟨G, hG2⟩⟩
  refine sc_perm hG2 ?_
  simp only [List.append_assoc]
  by_cases hlt : j < 14
  · have hlt' : (j : Int) < 14 := by omega
    have f_j : IntKind.i64.wrap ((j : Int) + 1) = ((j + 1 : Nat) : Int) := by rw [wrap_in (by unfold InI; omega)]; omega
    have h1 := safeR1_tri hG hbl (tx := (j : Int))
    have h2 := safeRR hR hC.ok (j : Int)
    have h3 := doomedR_tri hG (tx := (j : Int))
    have h4 := doomRR hR (j : Int)
    have h5 := liveR1_tri hG (tx := (j : Int))
    have h6 := liveRR hR (j : Int)
    rw [hC.safe hn] at h1
    rw [hC.isDoomed] at h3
    rw [hC.isLive] at h5
    generalize r.safe (j : Int) = s at h1 h2
    generalize r.isDoomed (j : Int) = dm at h3 h4
    generalize r.isLive (j : Int) = lv at h5 h6
    obtain ⟨s1, s2⟩ := s
    simp only at h1 h2
    ((apply sc_seq); refine sr_ ?_; (refine mv_ ?_); (refine se_ (ex_lss_t ev_ .const om_) ?_); refine sn_ ?_; (refine ct_ ?_); (apply sc_skip); (apply nm_then); (apply sc_seq); (apply sc_block); refine sr_ ?_; (refine mv_ ?_); (refine mv_ ?_); (apply so_callq; (exact Ev.func); (focus ((apply EvL.cons; (exact ev_)); (apply EvL.cons; (exact ev_)); exact EvL.nil)); (focus (repeat (first | exact App.nil | apply App.cons))); assumption; exact h1; (exact sel_); exact rfl); (refine mv_ ?_); (refine se_ (ex_extract ev_ nth_) ?_); (refine se_ (ex_extract ev_ nth_) ?_); (refine asg_ ?_); (refine asg_ ?_); refine sn_ ?_; refine sr_ ?_; (refine mv_ ?_); (refine mv_ ?_); (apply so_callq; (exact Ev.func); (focus ((apply EvL.cons; (exact ev_)); (apply EvL.cons; (exact ev_)); exact EvL.nil)); (focus (repeat (first | exact App.nil | apply App.cons))); assumption; exact h2; (exact sel_); exact rfl); (refine mv_ ?_); (refine se_ (ex_extract ev_ nth_) ?_); (refine se_ (ex_extract ev_ nth_) ?_); (refine asg_ ?_); (refine asg_ ?_); refine sn_ ?_; refine sr_ ?_; (refine mv_ ?_); (refine mv_ ?_); (apply so_callq; (exact Ev.func); (focus ((apply EvL.cons; (exact ev_)); (apply EvL.cons; (exact ev_)); exact EvL.nil)); (focus (repeat (first | exact App.nil | apply App.cons))); assumption; exact h3; (exact sel_); exact rfl); (refine mv_ ?_); (refine mv_ ?_); (apply so_callq; (exact Ev.func); (focus ((apply EvL.cons; (exact ev_)); (apply EvL.cons; (exact ev_)); exact EvL.nil)); (focus (repeat (first | exact App.nil | apply App.cons))); assumption; exact h4; (exact sel_); exact rfl); (refine se_ (ex_nebs ev_ ev_ asm_) ?_); (refine mv_ ?_); (refine wt_ ?_); (refine mv_ ?_); (refine wt_ ?_); (refine mv_ ?_); (refine wt_ ?_); (apply so_callq; (exact Ev.func); (focus ((apply EvL.cons; (exact ev_)); (apply EvL.cons; (exact ev_)); exact EvL.nil)); (focus (repeat (first | exact App.nil | apply App.cons))); assumption; exact h5; (exact sel_); exact rfl); (refine wt_ ?_); (refine mv_ ?_); (refine wt_ ?_); (refine mv_ ?_); (refine wt_ ?_); (apply so_callq; (exact Ev.func); (focus ((apply EvL.cons; (exact ev_)); (apply EvL.cons; (exact ev_)); exact EvL.nil)); (focus (repeat (first | exact App.nil | apply App.cons))); assumption; exact h6; (exact sel_); exact rfl); (refine wt_ ?_); (refine se_ (ex_nebs ev_ ev_ asm_) ?_); (refine se_ (ex_pick_f ev_ ev_) ?_); (refine mv_ ?_); (refine wt_ ?_); (refine mv_ ?_); (refine wt_ ?_); (refine mv_ ?_); (refine wt_ ?_); (refine se_ (ex_nebs ev_ ev_ asm_) ?_); (refine se_ (ex_pick_f ev_ ev_) ?_); (refine mv_ ?_); (refine wt_ ?_); (refine mv_ ?_); (refine wt_ ?_); (refine mv_ ?_); (refine wt_ ?_); (refine se_ (ex_nebs ev_ ev_ asm_) ?_); (refine se_ (ex_pick_f ev_ ev_) ?_); refine sn_ ?_; (refine cf_ ?_); (apply sc_skip); (apply nm_block); (apply nm_then); (apply sc_region); (refine mv_ ?_); (refine se_ (ex_add ev_ .const wr_) ?_); (refine asg_ ?_); (apply so_nil); (apply nm_then))
    exact ⟨_, by rw [hk]; omega, j + 1, by omega, rfl, at_, at_, at_, ⟨G, by simp⟩⟩
  · have hlt' : ¬ (j : Int) < 14 := by omega
    ((apply sc_seq); refine sr_ ?_; (refine mv_ ?_); (refine se_ (ex_lss_f ev_ .const om_) ?_); refine sn_ ?_; (refine cf_ ?_); (apply sc_exit); (apply et_then); (apply et_then); (apply et_hit); (apply nm_then); refine sr_ ?_; (refine ac_ ?_); refine sn_ ?_; (apply sc_ret); (apply ret_ok; (focus ((apply Res.tmp; (exact ev_)); exact Res.nil)); (exact ⟨rfl, rfl⟩); (exact sel_); (exact appb_)))
end Go.Proofs.Ytomgkmoecbnddaa
