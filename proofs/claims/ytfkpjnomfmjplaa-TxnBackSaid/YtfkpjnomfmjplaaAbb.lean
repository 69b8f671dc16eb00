/- Abb: blocks behind an unknown list of blocks; short names for what the walks look up again and again: a proof that is found by the tactic that stands in the statement. -/
import Derived.Test.YtfkpjnomfmjplaaFin
namespace Go.Sym
open Go
theorem Pick.pre {M R : List Blk} {p : Blk} (h : Pick M p R) : ∀ {A : List Blk}, Pick (A ++ M) p (A ++ R)
  | [] => h
  | _ :: _ => .there (Pick.pre h)
theorem Sel.pre {M ps R : List Blk} (h : Sel M ps R) : ∀ {A : List Blk}, Sel (A ++ M) ps (A ++ R)
  | [] => h
  | _ :: _ => .skip (Sel.pre h)
theorem Sel.both {M ps R : List Blk} (h : Sel M ps R) : ∀ {A : List Blk}, Sel (A ++ M) (A ++ ps) R
  | [] => h
  | _ :: _ => .cons .here (Sel.both h)
theorem Turn.pre {M M' : List Blk} {b : Nat} {o o' : Obj} (h : Turn M b o o' M') : ∀ {A : List Blk}, Turn (A ++ M) b o o' (A ++ M')
  | [] => h
  | _ :: _ => .there (Turn.pre h)
theorem AppB.pre {G R M A : List Blk} (h : AppB G R M) : AppB (A ++ G) R (A ++ M) := by
  rw [h.eq, ← List.append_assoc]
  exact AppB.self
theorem Sel.chunk {L A R ps R' : List Blk} (h : Sel L A R) (h2 : Sel R ps R') : Sel L (A ++ ps) R' := by
  induction h with
  | nil => exact h2
  | cons hp _ ih => exact .cons hp (ih h2)
theorem ev_ {f : Nat → Value} {x : Operand} {v : Value} (h : Ev f x v := by focus (repeat (first | exact Ev.same | apply Ev.other rfl | exact Ev.base (by assumption)))) : Ev f x v := h
theorem mem_ {p : Blk} {L : List Blk} (h : p ∈ L := by focus (repeat (first | exact List.Mem.head _ | assumption | exact List.mem_append_left _ (by assumption) | apply List.Mem.tail | apply List.mem_append_right))) : p ∈ L := h
theorem nth_ {c : List Value} {o : Nat} {v : Value} (h : Nth c o v := by focus (repeat (first | exact Nth.zero | apply Nth.succ))) : Nth c o v := h
theorem sel_ {L ps R : List Blk} (h : Sel L ps R := by focus (repeat (first | exact Sel.nil | (apply Sel.cons; (focus (repeat (first | exact Pick.here | apply Pick.there | apply Pick.pre)))) | exact Sel.all | exact Sel.self | apply Sel.both | (apply Sel.chunk; (focus (repeat (first | exact Sel.all | exact Sel.self | apply Sel.skip | apply Sel.pre); done))) | apply Sel.skip | apply Sel.pre))) : Sel L ps R := h
theorem appb_ {G R M : List Blk} (h : AppB G R M := by focus (repeat (first | exact AppB.self | exact AppB.nil | apply AppB.cons | apply AppB.pre))) : AppB G R M := h
theorem pick_ {L R : List Blk} {p : Blk} (h : Pick L p R := by focus (repeat (first | exact Pick.here | apply Pick.there | apply Pick.pre))) : Pick L p R := h
/-! ### one step each -/
section
variable {P : Program} {E : Env} {n : Nat} {Q : SPost} {f : Nat → Value} {L : List Blk} {ops rest : List Oper} {K : (Nat → Value) → Prop} {d dj j : Nat} {ty t : TypeId} {pos : String} {after : Array Edge} {x y z : Operand} {u v : Value} {b c : Bool} {op : Op}
theorem at_ {f : Nat → Value} {t : Nat} {v : Value} (h : Ev f (.tmp t) v := by exact ev_) : At f t v := h.at
theorem mv_ (h : SO P E n ops Q rest (upd f d v) L) (hx : Ev f x v := by exact ev_) (hd : Nat.blt d n = true := by exact rfl) : SO P E n ops Q (⟨some d, .move x, ty, pos, after, none⟩ :: rest) f L := so_ex (ex_move hx) hd h
theorem asg_ (h : SO P E n ops Q rest (upd f d v) L) (hx : Ev f x v := by exact ev_) (hd : Nat.blt d n = true := by exact rfl) : SO P E n ops Q (⟨some d, .assign x, ty, pos, after, none⟩ :: rest) f L := so_ex (ex_assign hx) hd h
theorem ac_ (h : SO P E n ops Q rest (upd f d v) L) (hd : Nat.blt d n = true := by exact rfl) : SO P E n ops Q (⟨some d, .assign (.const v), ty, pos, after, none⟩ :: rest) f L := so_ex (ex_assign .const) hd h
theorem wt_ {d : Option Nat} (h : SO P E n ops Q (⟨d, op, ty, pos, after, none⟩ :: rest) f L) (hj : ((ops[j]?).bind (·.dst)) = some dj := by exact rfl) (hv : Ev f (.tmp dj) (.bool c) := by exact ev_) (hc : (c == b) = true := by exact rfl) (hdj : Nat.blt dj n = true := by exact rfl) : SO P E n ops Q (⟨d, op, ty, pos, after, some (j, b)⟩ :: rest) f L := so_want hj hv hc hdj h
theorem sk_ (h : SO P E n ops Q rest (upd f d undef) L) (hj : ((ops[j]?).bind (·.dst)) = some dj := by exact rfl) (hv : Ev f (.tmp dj) (.bool c) := by exact ev_) (hc : (c == b) = false := by exact rfl) (hd : Nat.blt d n = true := by exact rfl) (hdj : Nat.blt dj n = true := by exact rfl) : SO P E n ops Q (⟨some d, op, ty, pos, after, some (j, b)⟩ :: rest) f L := so_skip hj hv hc hd hdj h
theorem su_ (h : SO P E n ops Q rest (upd f d undef) L) (hj : ((ops[j]?).bind (·.dst)) = some dj := by exact rfl) (hv : Ev f (.tmp dj) undef := by exact ev_) (hd : Nat.blt d n = true := by exact rfl) (hdj : Nat.blt dj n = true := by exact rfl) : SO P E n ops Q (⟨some d, op, ty, pos, after, some (j, b)⟩ :: rest) f L := so_skipu hj hv hd hdj h
theorem qw_ {d : Option Nat} (h : SQ P E n ops L K (⟨d, op, ty, pos, after, none⟩ :: rest) f) (hj : ((ops[j]?).bind (·.dst)) = some dj := by exact rfl) (hv : Ev f (.tmp dj) (.bool c) := by exact ev_) (hc : (c == b) = true := by exact rfl) (hdj : Nat.blt dj n = true := by exact rfl) : SQ P E n ops L K (⟨d, op, ty, pos, after, some (j, b)⟩ :: rest) f := sq_want hj hv hc hdj h
theorem qs_ (h : SQ P E n ops L K rest (upd f d undef)) (hj : ((ops[j]?).bind (·.dst)) = some dj := by exact rfl) (hv : Ev f (.tmp dj) (.bool c) := by exact ev_) (hc : (c == b) = false := by exact rfl) (hd : Nat.blt d n = true := by exact rfl) (hdj : Nat.blt dj n = true := by exact rfl) : SQ P E n ops L K (⟨some d, op, ty, pos, after, some (j, b)⟩ :: rest) f := sq_skip hj hv hc hd hdj h
theorem se_ (hx : Ex P E f L ⟨some d, op, ty, pos, after, none⟩ v) (h : SO P E n ops Q rest (upd f d v) L) (hd : Nat.blt d n = true := by exact rfl) : SO P E n ops Q (⟨some d, op, ty, pos, after, none⟩ :: rest) f L := so_ex hx hd h
theorem qe_ (hx : Ex P E f L ⟨some d, op, ty, pos, after, none⟩ v) (h : SQ P E n ops L K rest (upd f d v)) (hd : Nat.blt d n = true := by exact rfl) : SQ P E n ops L K (⟨some d, op, ty, pos, after, none⟩ :: rest) f := sq_ex hx hd h
theorem asm_ {p : Prop} (h : p := by assumption) : p := h
theorem om_ {p : Prop} (h : p := by first | assumption | omega) : p := h
theorem lit_ {p : Prop} (h : p := by first | exact rfl | exact (rfl : (0:Int) = ((0:Nat):Int)) | exact (rfl : (1:Int) = ((1:Nat):Int)) | exact (rfl : (2:Int) = ((2:Nat):Int)) | assumption) : p := h
theorem lt_ {p : Prop} (h : p := by first | assumption | omega | decide) : p := h
theorem wr_ {p : Prop} (h : p := by first | assumption | (apply wrap_in; unfold InI; omega) | exact rfl) : p := h
theorem held_ {L ps R : List Blk} (h : Held L ps R := by apply held; (exact sel_); (exact appb_)) : Held L ps R := h
theorem sr_ {id : Nat} {y : Code} (h : SO P E n ops (sThen (SC P E n y Q) Q) ops f L) : SC P E n (.seq (.region id ops.toArray false) y) Q f L := sc_seq (sc_region h)
theorem sn_ {M : (Nat → Value) → List Blk → Prop} (h : M f L) : SO P E n ops (sThen M Q) [] f L := so_nil (nm_then h)
theorem ct_ {x y : Code} {o : Operand} (h : SC P E n x Q f L) (hc : Ev f o (.bool true) := by exact ev_) : SC P E n (.cond o x y) Q f L := sc_cond_true hc h
theorem cf_ {x y : Code} {o : Operand} (h : SC P E n y Q f L) (hc : Ev f o (.bool false) := by exact ev_) : SC P E n (.cond o x y) Q f L := sc_cond_false hc h
end
end Go.Sym
