/- Abb: blocks behind an unknown list of blocks; short names for what the walks look up again and again: a proof that is found by the tactic that stands in the statement. -/
import Derived.Test.YtomgkmoecbnddaaFin
set_option linter.unusedVariables false
set_option linter.unusedSimpArgs false
set_option linter.unnecessarySimpa false
namespace Go.Sym
open Go
theorem Pick.pre {M R : List Blk} {p : Blk} (h : Pick M p R) : ∀ {A : List Blk}, Pick (A ++ M) p (A ++ R)
  | [] => h
  | _ :: _ => .there (Pick.pre h)
theorem Sel.pre {M ps R : List Blk} (h : Sel M ps R) : ∀ {A : List Blk}, Sel (A ++ M) ps (A ++ R)
  | [] => h
  | _ :: _ => .skip (Sel.pre h)
theorem Sel.both {M ps R : List Blk} (h : Sel M ps R) : ∀ {A : List Blk}, Sel (A ++ M) (A ++ ps) R
  | [] => h
  | _ :: _ => .cons .here (Sel.both h)
theorem Turn.pre {M M' : List Blk} {b : Nat} {o o' : Obj} (h : Turn M b o o' M') : ∀ {A : List Blk}, Turn (A ++ M) b o o' (A ++ M')
  | [] => h
  | _ :: _ => .there (Turn.pre h)
theorem AppB.pre {G R M A : List Blk} (h : AppB G R M) : AppB (A ++ G) R (A ++ M) := by
  rw [h.eq, ← List.append_assoc]
  exact AppB.self
theorem Sel.chunk {L A R ps R' : List Blk} (h : Sel L A R) (h2 : Sel R ps R') : Sel L (A ++ ps) R' := by
  induction h with
  | nil => exact h2
  | cons hp _ ih => exact .cons hp (ih h2)
theorem ev_ {f : Nat → Value} {x : Operand} {v : Value} (h : Ev f x v := by focus (repeat (first | exact Ev.same | apply Ev.other rfl | exact Ev.base (by assumption)))) : Ev f x v := h
theorem mem_ {p : Blk} {L : List Blk} (h : p ∈ L := by focus (repeat (first | exact List.Mem.head _ | exact List.mem_append_left _ (by assumption) | apply List.Mem.tail | apply List.mem_append_right))) : p ∈ L := h
theorem nth_ {c : List Value} {o : Nat} {v : Value} (h : Nth c o v := by focus (repeat (first | exact Nth.zero | apply Nth.succ))) : Nth c o v := h
theorem sub_ {c r : List Value} {o m : Nat} (h : Sub c o m r := by focus (repeat (first | exact Sub.nil | apply Sub.take | apply Sub.drop))) : Sub c o m r := h
theorem sel_ {L ps R : List Blk} (h : Sel L ps R := by focus (repeat (first | exact Sel.nil | (apply Sel.cons; (focus (repeat (first | exact Pick.here | apply Pick.there | apply Pick.pre)))) | exact Sel.all | exact Sel.self | apply Sel.both | (apply Sel.chunk; (focus (repeat (first | exact Sel.all | exact Sel.self | apply Sel.skip | apply Sel.pre); done))) | apply Sel.skip | apply Sel.pre))) : Sel L ps R := h
theorem appb_ {G R M : List Blk} (h : AppB G R M := by focus (repeat (first | exact AppB.self | exact AppB.nil | apply AppB.cons | apply AppB.pre))) : AppB G R M := h
theorem pick_ {L R : List Blk} {p : Blk} (h : Pick L p R := by focus (repeat (first | exact Pick.here | apply Pick.there | apply Pick.pre))) : Pick L p R := h
end Go.Sym
