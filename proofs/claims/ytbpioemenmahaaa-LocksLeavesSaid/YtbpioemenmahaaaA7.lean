/- Locks: Clone, Drop. -/
import Derived.Test.YtbpioemenmahaaaA6
set_option linter.unusedVariables false
set_option linter.unusedSimpArgs false
set_option linter.unnecessarySimpa false
namespace Go.Proofs.Ytbpioemenmahaaa
open Go.Sym

section
variable {E : Env} {n : Nat} {Q : SPost} {f : Nat → Value} {L : List Blk} {d : Nat} {ty : TypeId} {pos : String} {after : Array Edge} {x : Operand} {ops rest : List Oper}
theorem ex_mkIface {v : Value} (hx : Ev f x v) : Ex Try.prog E f L ⟨some d, .makeInterface 77 x, ty, pos, after, none⟩ (.iface 77 v) := .mk fun w _ => by
  have h : (Instr.makeInterface 77 v).run Try.prog w = .ok (.iface 77 v) w := by
    unfold Instr.makeInterface
    rw [Sem.run_bind, run_underlying Try.underlying77]; rfl
  simp only [execOp, hx.eq]
  rw [Sem.run_bind, h]; rfl
theorem ex_asMap {v : Value} (hx : Ev f x (.iface 77 v)) : Ex Try.prog E f L ⟨some d, .typeAssert x 20 77 false, ty, pos, after, none⟩ v := .mk fun w _ => by
  have h : (Instr.typeAssert (.iface 77 v) 20 77 false).run Try.prog w = .ok v w := by
    unfold Instr.typeAssert
    rw [Sem.run_bind, run_underlying Try.underlying77]; rfl
  simp only [execOp, hx.eq]
  rw [Sem.run_bind, h]; rfl
theorem so_clone {m : Nat} {es : Array MapEntry} {c : Nat} {tys : Array TypeId} (hx : Ev f x (.iface 77 (.map (some m)))) (hm : (m, .map es c) ∈ L) (hd : Nat.blt d n = true)
    (h : ∀ b, SO Try.prog E n ops Q rest (upd f d (.iface 77 (.map (some b)))) ((b, .map es c) :: L)) : SO Try.prog E n ops Q (⟨some d, .call ⟨.value (.func 62), #[x], tys⟩, ty, pos, after, none⟩ :: rest) f L := so_turn (by simpa using hd) fun a w hr hh => by
  refine ⟨.value (.iface 77 (.map (some w.heap.size))), w.alloc (.map es c), ?_, .inr ⟨_, rfl, (h _).out _ _ (hr.put (by simpa [Nat.blt_eq] using hd) _) (hh.alloc _)⟩⟩
  have hb := hh.get hm
  have hc : (callFunc 62 #[.iface 77 (.map (some m))]).run Try.prog w = (do let v ← Extern.MapsClone.clone #[.iface 77 (.map (some m))]; pure (.value v) : Sem Next).run Try.prog w := by
    unfold callFunc
    rw [Sem.run_bind]
    have : (program).run Try.prog w = .ok Try.prog w := rfl
    rw [this, Result.andThen_ok, Try.func62]
    rfl
  have hclone : (Extern.MapsClone.clone #[.iface 77 (.map (some m))]).run Try.prog w = .ok (.iface 77 (.map (some w.heap.size))) (w.alloc (.map es c)) := by
    have hg : (getObj m).run Try.prog w = .ok (.map es c) w := by simp [getObj, Sem.run, hb]
    change Sem.run Try.prog (getObj m >>= _) w = _
    rw [Sem.run_bind, hg, Result.andThen_ok]
    rfl
  rw [Sem.run_bind, hclone, Result.andThen_ok] at hc
  have h1 : (#[x] : Array Operand).map (evO f) = #[.iface 77 (.map (some m))] := by simp [hx.eq]
  have h0 : evO f (.func 62) = .func (.func 62) #[] #[] := rfl
  simp only [execOp, resolve, h1, h0, Deferred.ofValue]
  simp [invoke, hc]
end
theorem clone_tri {m : Nat} {es : Array MapEntry} {c : Nat} : Tri Try.prog 44 #[.map (some m)] [(m, .map es c)] (fun v L => ∃ b, v = .map (some b) ∧ L = [(b, .map es c), (m, .map es c)]) := by
  have f_mixed := mixed; have f_un_77 : Und Try.prog 77 _ := ⟨Try.underlying77⟩
  refine tri_intro (args := [_]) Try.func44 rfl Try.ntmps44 rfl (rs := _) rfl rfl fun E R => ?_
  simp only [fr, List.cons_append, List.nil_append]
  ((apply sc_seq); (apply sc_region); (apply so_ex; (apply ex_assign; ((exact Ev.const))); exact rfl); (apply so_nil); (apply nm_then); (apply sc_seq); (apply sc_seq); (apply sc_region); (apply so_ex; (apply ex_move; ((focus (repeat (first | exact Ev.same | apply Ev.other rfl | exact Ev.base (by assumption)))))); exact rfl); (apply so_ex; (apply ex_eqm_f; ((focus (repeat (first | exact Ev.same | apply Ev.other rfl | exact Ev.base (by assumption))))); ((exact Ev.const)); assumption); exact rfl); (apply so_nil); (apply nm_then); (apply sc_cond_false; ((focus (repeat (first | exact Ev.same | apply Ev.other rfl | exact Ev.base (by assumption)))))); (apply sc_skip); (apply nm_then); (apply sc_seq); (apply sc_region); (apply so_ex; (apply ex_move; ((focus (repeat (first | exact Ev.same | apply Ev.other rfl | exact Ev.base (by assumption)))))); exact rfl); (apply so_ex; (first | (apply ex_mkIface; (focus (repeat (first | exact Ev.same | apply Ev.other rfl | exact Ev.base (by assumption))))) | (apply ex_asMap; (focus (fail)))); exact rfl); (apply so_clone; (focus (repeat (first | exact Ev.same | apply Ev.other rfl | exact Ev.base (by assumption)))); (focus (repeat (first | exact List.Mem.head _ | apply List.Mem.tail))); exact rfl; intro _); (apply so_ex; (first | (apply ex_mkIface; (focus (fail))) | (apply ex_asMap; (focus (repeat (first | exact Ev.same | apply Ev.other rfl | exact Ev.base (by assumption)))))); exact rfl); (apply so_ex; (apply ex_assign; ((focus (repeat (first | exact Ev.same | apply Ev.other rfl | exact Ev.base (by assumption)))))); exact rfl); (apply so_nil); (apply nm_then); (apply sc_ret); (apply ret_ok; (focus ((apply Res.tmp; (focus (repeat (first | exact Ev.same | apply Ev.other rfl | exact Ev.base (by assumption))))); exact Res.nil)); ((rename_i b; exact ⟨b, rfl, rfl⟩)); (focus (repeat (first | exact Sel.nil | (apply Sel.cons; (focus (repeat (first | exact Pick.here | apply Pick.there)))) | exact Sel.all | exact Sel.self | apply Sel.skip))); (focus (repeat (first | exact AppB.self | exact AppB.nil | apply AppB.cons)))))
theorem drop1_tri (b3 : Nat) (tx : Int) (k : Lk) : TriQ Try.prog 72 #[encLock k, .bool true, .pointer (some ⟨b3, 0, none⟩)] [(b3, .cells [Value.int .i64 tx].toArray 3)] (.bool (decide (k.tx = tx))) := by
  have f_mixed := mixed; have f_fo82_0 := fo82_0; have f_ty3 := ty3; have f_ty82 := ty82
  refine tri_intro (args := [_, _, _]) Try.func72 rfl Try.ntmps72 rfl (rs := _) rfl rfl fun E R => ?_
  simp only [fr, encLock, List.cons_append, List.nil_append]
  ((apply sc_seq); (apply sc_region); (apply so_box; (focus (repeat (first | exact Ev.same | apply Ev.other rfl | exact Ev.base (by assumption)))); exact rfl; exact rfl; intro _); (apply so_ex; (apply ex_assign; ((exact Ev.const))); exact rfl); (apply so_nil); (apply nm_then); (apply sc_seq); (apply sc_region); (apply so_ex; (apply ex_fieldAddr; ((focus (repeat (first | exact Ev.same | apply Ev.other rfl | exact Ev.base (by assumption))))); assumption); exact rfl); (apply so_ex; (apply ex_load1; ((focus (repeat (first | exact Ev.same | apply Ev.other rfl | exact Ev.base (by assumption))))); assumption; ((focus (repeat (first | exact List.Mem.head _ | apply List.Mem.tail)))); ((focus (repeat (first | exact Nth.zero | apply Nth.succ))))); exact rfl); (apply so_ex; (apply ex_load1; ((focus (repeat (first | exact Ev.same | apply Ev.other rfl | exact Ev.base (by assumption))))); assumption; ((focus (repeat (first | exact List.Mem.head _ | apply List.Mem.tail)))); ((focus (repeat (first | exact Nth.zero | apply Nth.succ))))); exact rfl); (apply so_split; (apply ex_eql; ((focus (repeat (first | exact Ev.same | apply Ev.other rfl | exact Ev.base (by assumption))))); ((focus (repeat (first | exact Ev.same | apply Ev.other rfl | exact Ev.base (by assumption)))))); exact rfl; refine ⟨fun _ => ?_, fun _ => ?_⟩); (apply so_ex; (apply ex_assign; ((focus (repeat (first | exact Ev.same | apply Ev.other rfl | exact Ev.base (by assumption)))))); exact rfl); (apply so_nil); (apply nm_then); (apply sc_ret); (apply ret_ok; (focus ((apply Res.tmp; (focus (repeat (first | exact Ev.same | apply Ev.other rfl | exact Ev.base (by assumption))))); exact Res.nil)); (exact ⟨by simp [resVal, *], rfl⟩); (focus (repeat (first | exact Sel.nil | (apply Sel.cons; (focus (repeat (first | exact Pick.here | apply Pick.there)))) | exact Sel.all | exact Sel.self | apply Sel.skip))); (focus (repeat (first | exact AppB.self | exact AppB.nil | apply AppB.cons)))); (apply so_ex; (apply ex_assign; ((focus (repeat (first | exact Ev.same | apply Ev.other rfl | exact Ev.base (by assumption)))))); exact rfl); (apply so_nil); (apply nm_then); (apply sc_ret); (apply ret_ok; (focus ((apply Res.tmp; (focus (repeat (first | exact Ev.same | apply Ev.other rfl | exact Ev.base (by assumption))))); exact Res.nil)); (exact ⟨by simp [resVal, *], rfl⟩); (focus (repeat (first | exact Sel.nil | (apply Sel.cons; (focus (repeat (first | exact Pick.here | apply Pick.there)))) | exact Sel.all | exact Sel.self | apply Sel.skip))); (focus (repeat (first | exact AppB.self | exact AppB.nil | apply AppB.cons)))))
def dropT (S : List Lk) (tx : Int) : List Lk := S.filter fun k => !decide (k.tx = tx)
theorem drop_tri {p m : Nat} {most : Int} {es : Array MapEntry} {c : Nat} {S : List Lk} (hM : MapOf encLock (lv S) es c) (tx : Int) : Tri Try.prog 56 #[.pointer (some ⟨p, 0, none⟩), .int .i64 tx] (lBlk p m most es c) (fun _ L => LAt p most (dropT S tx) L) := by
  have f_mixed := mixed; have f_en63 := en63; have f_en72 := en72; have f_fo79_1 := fo79_1; have f_ty3 := ty3; have f_ty77 := ty77; have f_un_30 : Und Try.prog 30 _ := ⟨Try.underlying30⟩
  refine tri_intro (args := [_, _]) Try.func56 rfl Try.ntmps56 rfl (rs := _) rfl rfl fun E R => ?_
  simp only [fr, lBlk, List.cons_append, List.nil_append]
  ((apply sc_seq); (apply sc_region); (apply so_box; (focus (repeat (first | exact Ev.same | apply Ev.other rfl | exact Ev.base (by assumption)))); exact rfl; exact rfl; intro _); (apply so_nil); (apply nm_then); (apply sc_seq); (apply sc_region); (apply so_ex; (apply ex_move; ((focus (repeat (first | exact Ev.same | apply Ev.other rfl | exact Ev.base (by assumption)))))); exact rfl); (apply so_ex; (apply ex_nep_t; ((focus (repeat (first | exact Ev.same | apply Ev.other rfl | exact Ev.base (by assumption))))); ((exact Ev.const)); assumption); exact rfl); (apply so_nil); (apply nm_then); (apply sc_cond_true; ((focus (repeat (first | exact Ev.same | apply Ev.other rfl | exact Ev.base (by assumption)))))); (apply sc_region); (apply so_ex; (apply ex_move; ((focus (repeat (first | exact Ev.same | apply Ev.other rfl | exact Ev.base (by assumption)))))); exact rfl); (apply so_ex; (apply ex_nilCheck; ((focus (repeat (first | exact Ev.same | apply Ev.other rfl | exact Ev.base (by assumption)))))); exact rfl); (apply so_ex; (apply ex_fieldAddr; ((focus (repeat (first | exact Ev.same | apply Ev.other rfl | exact Ev.base (by assumption))))); assumption); exact rfl); (apply so_ex; (apply ex_load1; ((focus (repeat (first | exact Ev.same | apply Ev.other rfl | exact Ev.base (by assumption))))); assumption; ((focus (repeat (first | exact List.Mem.head _ | apply List.Mem.tail)))); ((focus (repeat (first | exact Nth.zero | apply Nth.succ))))); exact rfl); (apply so_ex; (apply ex_makeFunc; ((focus ((apply EvL.cons; (focus (repeat (first | exact Ev.same | apply Ev.other rfl | exact Ev.base (by assumption))))); exact EvL.nil)))); exact rfl))
  rename_i b3
  have hd := deleteFunc_tri (g := 72) (m := m) (cap := [.pointer (some ⟨b3, 0, none⟩)]) hM f_en72 (fun k => drop1_tri b3 tx k)
  (apply so_call; (exact Ev.func); (focus ((apply EvL.cons; (focus (repeat (first | exact Ev.same | apply Ev.other rfl | exact Ev.base (by assumption))))); (apply EvL.cons; (focus (repeat (first | exact Ev.same | apply Ev.other rfl | exact Ev.base (by assumption))))); exact EvL.nil)); (focus (repeat (first | exact App.nil | apply App.cons))); assumption; (exact hd); (focus (repeat (first | exact Sel.nil | (apply Sel.cons; (focus (repeat (first | exact Pick.here | apply Pick.there)))) | exact Sel.all | exact Sel.self | apply Sel.skip))); exact rfl)
  rintro v L' ⟨es', rfl, hM'⟩
  simp only [List.cons_append, List.nil_append]
  ((apply so_nil); (apply ret_ok'; (focus (exact Res.nil)); (exact ⟨m, _, _, rfl, hM'⟩); (focus (repeat (first | exact Sel.nil | (apply Sel.cons; (focus (repeat (first | exact Pick.here | apply Pick.there)))) | exact Sel.all | exact Sel.self | apply Sel.skip))); (focus (repeat (first | exact AppB.self | exact AppB.nil | apply AppB.cons)))))
end Go.Proofs.Ytbpioemenmahaaa
