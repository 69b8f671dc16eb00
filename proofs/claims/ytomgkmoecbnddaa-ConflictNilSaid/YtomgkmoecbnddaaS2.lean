/- Conflict: the examples of the chapter. -/
import Derived.Test.YtomgkmoecbnddaaS1
set_option linter.unusedVariables false
set_option linter.unusedSimpArgs false
set_option linter.unnecessarySimpa false
namespace Go.Proofs.Ytomgkmoecbnddaa
open Go.Sym

def sA1 : Gr := (Gr.new 4).beginQ 1 false
def sA2 : Gr := sA1.beginQ 2 false
def sA3 : Gr := sA2.edgeG 1 2
def sA4 : Gr := sA3.edgeG 2 1
def sA5 : Gr := (sA4.checkQ 1).2
def sA6 : Gr := sA5.commitQ 1
theorem sane1 : sA2.edgeR 1 2 1 = 0 ∧ sA3.edgeR 2 1 2 = 0 ∧ (sA4.checkQ 1).1 = 0 ∧ (sA6.checkQ 2).1 = 43 := by decide
def sB1 : Gr := (Gr.new 0).beginQ 1 false
def sB2 : Gr := sB1.beginQ 2 false
def sB3 : Gr := (sB2.checkQ 1).2
def sB4 : Gr := sB3.commitQ 1
def sB5 : Gr := sB4.beginQ 3 true
def sB6 : Gr := sB5.edgeG 2 1
def sB7 : Gr := sB6.edgeG 3 2
theorem sane2 : (sB2.checkQ 1).1 = 0 ∧ sB5.edgeR 2 1 2 = 0 ∧ sB6.edgeR 3 2 3 = 0 ∧ sB7.isDoomed 2 = true ∧ sB7.isDoomed 3 = false := by decide
theorem sanity_tri : TriQ Try.prog 9 #[] [] (.bool true) := by
  have f_mixed := mixed; have f_en10 := en10; have f_en12 := en12; have f_en13 := en13; have f_en15 := en15; have f_en16 := en16; have f_en17 := en17
  refine tri_intro (args := []) Try.func9 rfl Try.ntmps9 rfl (rs := _) rfl rfl fun E R => ?_
  simp only [fr, List.nil_append]
  obtain ⟨q1, q2, q3, q4⟩ := sane1
  obtain ⟨r1, r2, r3, r4, r5⟩ := sane2
  (refine sr_ ?_; (refine ac_ ?_); refine sn_ ?_; (apply sc_seq); (apply sc_region))
  (apply so_call; (exact Ev.func); (focus ((apply EvL.cons; (exact Ev.const)); exact EvL.nil)); (focus (repeat (first | exact App.nil | apply App.cons))); assumption; (exact newR_tri (most := 4)); (exact sel_); exact rfl)
  rintro v L1 ⟨p1, rfl, g1⟩
  ((refine asg_ ?_); refine sn_ ?_; refine sr_ ?_; (refine mv_ ?_))
  (apply so_call; (exact Ev.func); (focus ((apply EvL.cons; (exact ev_)); (apply EvL.cons; (exact Ev.const)); (apply EvL.cons; (exact Ev.const)); exact EvL.nil)); (focus (repeat (first | exact App.nil | apply App.cons))); assumption; (exact beginR_tri (tx := 1) (ro := false) g1 (by decide)); (exact sel_); exact rfl)
  rintro v L ⟨rfl, g2⟩
  replace g1 : GRep 1 sA1 p1 L := g2
  clear g2
  (refine sn_ ?_; refine sr_ ?_; (refine mv_ ?_))
  (apply so_call; (exact Ev.func); (focus ((apply EvL.cons; (exact ev_)); (apply EvL.cons; (exact Ev.const)); (apply EvL.cons; (exact Ev.const)); exact EvL.nil)); (focus (repeat (first | exact App.nil | apply App.cons))); assumption; (exact beginR_tri (tx := 2) (ro := false) g1 (by decide)); (exact sel_); exact rfl)
  rintro v L ⟨rfl, g2⟩
  replace g1 : GRep 2 sA2 p1 L := g2
  clear g2
  (refine sn_ ?_; refine sr_ ?_; (refine mv_ ?_))
  (apply so_call; (exact Ev.func); (focus ((apply EvL.cons; (exact ev_)); (apply EvL.cons; (exact Ev.const)); (apply EvL.cons; (exact Ev.const)); (apply EvL.cons; (exact Ev.const)); exact EvL.nil)); (focus (repeat (first | exact App.nil | apply App.cons))); assumption; (exact (edgeR_tri (a := 1) (b := 2) (c := 1) g1).mono (post' := fun v L => v = .int .i64 0 ∧ GRep 2 sA3 p1 L) fun v L ⟨h1, h2⟩ => ⟨h1.trans (congrArg _ q1), h2⟩); (exact sel_); exact rfl)
  rintro v L ⟨rfl, g2⟩
  replace g1 : GRep 2 sA3 p1 L := g2
  clear g2
  ((refine asg_ ?_); refine sn_ ?_; refine sr_ ?_; (refine mv_ ?_))
  (apply so_call; (exact Ev.func); (focus ((apply EvL.cons; (exact ev_)); (apply EvL.cons; (exact Ev.const)); (apply EvL.cons; (exact Ev.const)); (apply EvL.cons; (exact Ev.const)); exact EvL.nil)); (focus (repeat (first | exact App.nil | apply App.cons))); assumption; (exact (edgeR_tri (a := 2) (b := 1) (c := 2) g1).mono (post' := fun v L => v = .int .i64 0 ∧ GRep 2 sA4 p1 L) fun v L ⟨h1, h2⟩ => ⟨h1.trans (congrArg _ q2), h2⟩); (exact sel_); exact rfl)
  rintro v L ⟨rfl, g2⟩
  replace g1 : GRep 2 sA4 p1 L := g2
  clear g2
  ((refine asg_ ?_); refine sn_ ?_; refine sr_ ?_; (refine mv_ ?_))
  (apply so_call; (exact Ev.func); (focus ((apply EvL.cons; (exact ev_)); (apply EvL.cons; (exact Ev.const)); exact EvL.nil)); (focus (repeat (first | exact App.nil | apply App.cons))); assumption; (exact (checkR_tri (a := 1) g1).mono (post' := fun v L => v = .int .i64 0 ∧ GRep 2 sA5 p1 L) fun v L ⟨h1, h2⟩ => ⟨h1.trans (congrArg _ q3), h2⟩); (exact sel_); exact rfl)
  rintro v L ⟨rfl, g2⟩
  replace g1 : GRep 2 sA5 p1 L := g2
  clear g2
  ((refine asg_ ?_); refine sn_ ?_; refine sr_ ?_; (refine mv_ ?_))
  (apply so_call; (exact Ev.func); (focus ((apply EvL.cons; (exact ev_)); (apply EvL.cons; (exact Ev.const)); exact EvL.nil)); (focus (repeat (first | exact App.nil | apply App.cons))); assumption; (exact commitR_tri (a := 1) g1 (by decide)); (exact sel_); exact rfl)
  rintro v L ⟨rfl, g2⟩
  replace g1 : GRep 3 sA6 p1 L := g2
  clear g2
  (refine sn_ ?_; refine sr_ ?_; (refine mv_ ?_))
  (apply so_call; (exact Ev.func); (focus ((apply EvL.cons; (exact ev_)); (apply EvL.cons; (exact Ev.const)); exact EvL.nil)); (focus (repeat (first | exact App.nil | apply App.cons))); assumption; (exact (checkR_tri (a := 2) g1).mono (post' := fun v L => v = .int .i64 43 ∧ GRep 3 (sA6.checkQ 2).2 p1 L) fun v L ⟨h1, h2⟩ => ⟨h1.trans (congrArg _ q4), h2⟩); (exact sel_); exact rfl)
  rintro v L ⟨rfl, g2⟩
  replace g1 : GRep 3 (sA6.checkQ 2).2 p1 L := g2
  clear g2
  ((refine asg_ ?_); refine sn_ ?_; (apply sc_seq); (apply sc_region))
  (apply so_call; (exact Ev.func); (focus ((apply EvL.cons; (exact Ev.const)); exact EvL.nil)); (focus (repeat (first | exact App.nil | apply App.cons))); assumption; (exact newR_tri (most := 0)); (exact sel_); exact rfl)
  rintro v M1 ⟨p2, rfl, g1⟩
  ((refine asg_ ?_); refine sn_ ?_; refine sr_ ?_; (refine mv_ ?_))
  (apply so_call; (exact Ev.func); (focus ((apply EvL.cons; (exact ev_)); (apply EvL.cons; (exact Ev.const)); (apply EvL.cons; (exact Ev.const)); exact EvL.nil)); (focus (repeat (first | exact App.nil | apply App.cons))); assumption; (exact beginR_tri (tx := 1) (ro := false) g1 (by decide)); (exact sel_); exact rfl)
  rintro v L ⟨rfl, g2⟩
  replace g1 : GRep 1 sB1 p2 L := g2
  clear g2
  (refine sn_ ?_; refine sr_ ?_; (refine mv_ ?_))
  (apply so_call; (exact Ev.func); (focus ((apply EvL.cons; (exact ev_)); (apply EvL.cons; (exact Ev.const)); (apply EvL.cons; (exact Ev.const)); exact EvL.nil)); (focus (repeat (first | exact App.nil | apply App.cons))); assumption; (exact beginR_tri (tx := 2) (ro := false) g1 (by decide)); (exact sel_); exact rfl)
  rintro v L ⟨rfl, g2⟩
  replace g1 : GRep 2 sB2 p2 L := g2
  clear g2
  (refine sn_ ?_; refine sr_ ?_; (refine mv_ ?_))
  (apply so_call; (exact Ev.func); (focus ((apply EvL.cons; (exact ev_)); (apply EvL.cons; (exact Ev.const)); exact EvL.nil)); (focus (repeat (first | exact App.nil | apply App.cons))); assumption; (exact (checkR_tri (a := 1) g1).mono (post' := fun v L => v = .int .i64 0 ∧ GRep 2 sB3 p2 L) fun v L ⟨h1, h2⟩ => ⟨h1.trans (congrArg _ r1), h2⟩); (exact sel_); exact rfl)
  rintro v L ⟨rfl, g2⟩
  replace g1 : GRep 2 sB3 p2 L := g2
  clear g2
  ((refine asg_ ?_); refine sn_ ?_; refine sr_ ?_; (refine mv_ ?_))
  (apply so_call; (exact Ev.func); (focus ((apply EvL.cons; (exact ev_)); (apply EvL.cons; (exact Ev.const)); exact EvL.nil)); (focus (repeat (first | exact App.nil | apply App.cons))); assumption; (exact commitR_tri (a := 1) g1 (by decide)); (exact sel_); exact rfl)
  rintro v L ⟨rfl, g2⟩
  replace g1 : GRep 3 sB4 p2 L := g2
  clear g2
  (refine sn_ ?_; refine sr_ ?_; (refine mv_ ?_))
  (apply so_call; (exact Ev.func); (focus ((apply EvL.cons; (exact ev_)); (apply EvL.cons; (exact Ev.const)); (apply EvL.cons; (exact Ev.const)); exact EvL.nil)); (focus (repeat (first | exact App.nil | apply App.cons))); assumption; (exact beginR_tri (tx := 3) (ro := true) g1 (by decide)); (exact sel_); exact rfl)
  rintro v L ⟨rfl, g2⟩
  replace g1 : GRep 4 sB5 p2 L := g2
  clear g2
  (refine sn_ ?_; refine sr_ ?_; (refine mv_ ?_))
  (apply so_call; (exact Ev.func); (focus ((apply EvL.cons; (exact ev_)); (apply EvL.cons; (exact Ev.const)); (apply EvL.cons; (exact Ev.const)); (apply EvL.cons; (exact Ev.const)); exact EvL.nil)); (focus (repeat (first | exact App.nil | apply App.cons))); assumption; (exact (edgeR_tri (a := 2) (b := 1) (c := 2) g1).mono (post' := fun v L => v = .int .i64 0 ∧ GRep 4 sB6 p2 L) fun v L ⟨h1, h2⟩ => ⟨h1.trans (congrArg _ r2), h2⟩); (exact sel_); exact rfl)
  rintro v L ⟨rfl, g2⟩
  replace g1 : GRep 4 sB6 p2 L := g2
  clear g2
  ((refine asg_ ?_); refine sn_ ?_; refine sr_ ?_; (refine mv_ ?_))
  (apply so_call; (exact Ev.func); (focus ((apply EvL.cons; (exact ev_)); (apply EvL.cons; (exact Ev.const)); (apply EvL.cons; (exact Ev.const)); (apply EvL.cons; (exact Ev.const)); exact EvL.nil)); (focus (repeat (first | exact App.nil | apply App.cons))); assumption; (exact (edgeR_tri (a := 3) (b := 2) (c := 3) g1).mono (post' := fun v L => v = .int .i64 0 ∧ GRep 4 sB7 p2 L) fun v L ⟨h1, h2⟩ => ⟨h1.trans (congrArg _ r3), h2⟩); (exact sel_); exact rfl)
  rintro v L ⟨rfl, g2⟩
  replace g1 : GRep 4 sB7 p2 L := g2
  clear g2
  ((refine asg_ ?_); refine sn_ ?_; refine sr_ ?_; (refine mv_ ?_); (refine se_ (ex_eql_t ev_ .const om_) ?_); (refine mv_ ?_); (refine wt_ ?_); (refine mv_ ?_); (refine wt_ ?_); (refine se_ (ex_eql_t ev_ .const om_) ?_); (refine se_ (ex_pick_t ev_ ev_) ?_); (refine mv_ ?_); (refine wt_ ?_); (refine mv_ ?_); (refine wt_ ?_); (refine se_ (ex_eql_t ev_ .const om_) ?_); (refine se_ (ex_pick_t ev_ ev_) ?_); (refine mv_ ?_); (refine wt_ ?_); (refine mv_ ?_); (refine wt_ ?_); (refine se_ (ex_eql_t ev_ .const om_) ?_); (refine se_ (ex_pick_t ev_ ev_) ?_); (refine mv_ ?_); (refine wt_ ?_); (refine mv_ ?_); (refine wt_ ?_); (refine se_ (ex_eql_t ev_ .const om_) ?_); (refine se_ (ex_pick_t ev_ ev_) ?_); (refine mv_ ?_); (refine wt_ ?_); (refine mv_ ?_); (refine wt_ ?_); (refine se_ (ex_eql_t ev_ .const om_) ?_); (refine se_ (ex_pick_t ev_ ev_) ?_); (refine mv_ ?_); (refine wt_ ?_); (refine mv_ ?_); (refine wt_ ?_); (refine se_ (ex_eql_t ev_ .const om_) ?_); (refine se_ (ex_pick_t ev_ ev_) ?_); (refine mv_ ?_); (refine wt_ ?_); (refine mv_ ?_); (refine wt_ ?_))
  have d2 := doomedR_tri (tx := 2) g1
  have d3 := doomedR_tri (tx := 3) g1
  rw [r4] at d2
  rw [r5] at d3
  ((apply so_callq; (exact Ev.func); (focus ((apply EvL.cons; (exact ev_)); (apply EvL.cons; (exact Ev.const)); exact EvL.nil)); (focus (repeat (first | exact App.nil | apply App.cons))); assumption; exact d2; (exact sel_); exact rfl); (refine se_ (ex_pick_t ev_ ev_) ?_); (refine mv_ ?_); (refine wt_ ?_); (refine mv_ ?_); (refine wt_ ?_); (apply so_callq; (exact Ev.func); (focus ((apply EvL.cons; (exact ev_)); (apply EvL.cons; (exact Ev.const)); exact EvL.nil)); (focus (repeat (first | exact App.nil | apply App.cons))); assumption; exact d3; (exact sel_); exact rfl); (refine wt_ ?_); (refine se_ (ex_not ev_) ?_); (refine se_ (ex_pick_t ev_ ev_) ?_); (refine asg_ ?_); refine sn_ ?_; (apply sc_ret); (apply ret_ok; (focus ((apply Res.tmp; (exact ev_)); exact Res.nil)); (exact ⟨rfl, rfl⟩); (exact sel_); (exact appb_)))
end Go.Proofs.Ytomgkmoecbnddaa
