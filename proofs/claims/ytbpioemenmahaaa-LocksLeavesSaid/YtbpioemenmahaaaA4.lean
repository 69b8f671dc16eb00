/- Locks: the lock table: New, Count, DeleteFunc, add. -/
import Derived.Test.YtbpioemenmahaaaA3
set_option linter.unusedVariables false
set_option linter.unusedSimpArgs false
set_option linter.unnecessarySimpa false
namespace Go.Proofs.Ytbpioemenmahaaa
open Go.Sym

structure Lk where
  tx : Int
  on : Tgt
  deriving DecidableEq
def encLock (k : Lk) : Value := .agg #[.int .i64 k.tx, .int .i64 k.on.kind, .int .i64 k.on.table, .int .i64 k.on.page, .int .i64 k.on.slot]
theorem encLock_inj (a b : Lk) (h : encLock a = encLock b) : a = b := by
  obtain ⟨t, k, x, y, z⟩ := a; obtain ⟨t', k', x', y', z'⟩ := b
  simp [encLock] at h
  simp [h]
theorem lock_run (a b c d e a' b' c' d' e' : Int) (w : World) : (Op.equal 82 (.agg #[.int .i64 a, .int .i64 b, .int .i64 c, .int .i64 d, .int .i64 e]) (.agg #[.int .i64 a', .int .i64 b', .int .i64 c', .int .i64 d', .int .i64 e'])).run Try.prog w
    = .ok (decide (a = a' ∧ b = b' ∧ c = c' ∧ d = d' ∧ e = e')) w := by
  by_cases h1 : a = a'
  · by_cases h2 : b = b'
    · by_cases h3 : c = c'
      · by_cases h4 : d = d'
        · by_cases h5 : e = e' <;> simp [Op.equal, Op.maxDepth, go_sem, h1, h2, h3, h4, h5]
        · simp [Op.equal, Op.maxDepth, go_sem, h1, h2, h3, h4]
      · simp [Op.equal, Op.maxDepth, go_sem, h1, h2, h3]
    · simp [Op.equal, Op.maxDepth, go_sem, h1, h2]
  · simp [Op.equal, Op.maxDepth, go_sem, h1]
theorem KL82 : KeyLaw Try.prog 82 encLock := KeyLaw.of_struct Try.underlying82 (fun _ _ => rfl)
  (fun b k w => (by kernel_rfl : (Instr.checkKey b 10000 82 (.agg #[.int .i64 k.tx, .int .i64 k.on.kind, .int .i64 k.on.table, .int .i64 k.on.page, .int .i64 k.on.slot])).run Try.prog w = .ok () w))
  (fun k => by simp [Instr.sameBits, encLock])
  (fun k k' w => by
    have h := lock_run k.tx k.on.kind k.on.table k.on.page k.on.slot k'.tx k'.on.kind k'.on.table k'.on.page k'.on.slot w
    have e : decide (k.tx = k'.tx ∧ k.on.kind = k'.on.kind ∧ k.on.table = k'.on.table ∧ k.on.page = k'.on.page ∧ k.on.slot = k'.on.slot) = decide (k = k') := by
      rw [decide_eq_decide]
      obtain ⟨t, k, x, y, z⟩ := k; obtain ⟨t', k', x', y', z'⟩ := k'
      simp
    rw [e] at h
    exact h)
theorem keyEq (a b c d e : Int) : Value.agg #[.int .i64 a, .int .i64 b, .int .i64 c, .int .i64 d, .int .i64 e] = encLock ⟨a, ⟨b, c, d, e⟩⟩ := rfl

def lv (S : List Lk) : List (Lk × Value) := S.map fun k => (k, .bool true)
theorem lookV_lv (S : List Lk) (k : Lk) : lookV (lv S) k = if k ∈ S then some (.bool true) else none := by
  induction S with
  | nil => rfl
  | cons a S ih =>
    unfold lv at *
    rw [List.map_cons, lookV_cons, ih]
    by_cases h : a = k
    · simp [h]
    · have : ¬ k = a := fun e => h e.symm
      simp [h, this]
theorem lookEq2 (S : List Lk) (k : Lk) : (lookV (lv S) k).getD (.bool false) = .bool (decide (k ∈ S)) := by
  rw [lookV_lv]
  by_cases h : k ∈ S <;> simp [h]
theorem hasK_lv (S : List Lk) (k : Lk) : hasK (lv S) k = decide (k ∈ S) := by
  rw [← lookV_isSome, lookV_lv]
  by_cases h : k ∈ S <;> simp [h]
theorem delV_lv (S : List Lk) (k : Lk) : delV (lv S) k = lv (S.filter fun x => !decide (x = k)) := by
  unfold delV lv
  rw [List.filter_map]; rfl
theorem putV_lv (S : List Lk) (k : Lk) : putV (lv S) k (.bool true) = lv (if k ∈ S then S else S ++ [k]) := by
  unfold putV
  rw [hasK_lv]
  by_cases h : k ∈ S
  · simp only [h, decide_true, if_true]
    unfold lv
    rw [List.map_map]
    apply List.map_congr_left
    intro a _
    simp only [Function.comp]
    split <;> rfl
  · simp [h, lv]
theorem lv_nodup {S : List Lk} {es : Array MapEntry} {c : Nat} (h : MapOf encLock (lv S) es c) : S.Nodup := by
  have := h.keys
  unfold lv at this
  simpa [Function.comp_def] using this

abbrev lBlk (p m : Nat) (most : Int) (es : Array MapEntry) (c : Nat) : List Blk := [(p, .cells [Value.int .i64 most, Value.map (some m)].toArray 79), (m, .map es c)]
def LAt (p : Nat) (most : Int) (S : List Lk) (L : List Blk) : Prop := ∃ m es c, L = lBlk p m most es c ∧ MapOf encLock (lv S) es c

theorem new_tri (most : Int) : Tri Try.prog 14 #[.int .i64 most] [] fun v L => ∃ p, v = .pointer (some ⟨p, 0, none⟩) ∧ LAt p most [] L := by
  have f_mixed := mixed; have f_pl79_0 := pl79_0; have f_pl79_1 := pl79_1; have f_st79 := st79; have f_ty79 := ty79; have f_zero79 := zero79
  refine tri_intro (args := [_]) Try.func14 rfl Try.ntmps14 rfl (rs := _) rfl rfl fun E R => ?_
  simp only [fr, List.cons_append, List.nil_append]
  ((apply sc_seq); (apply sc_region); (apply so_ex; (apply ex_assign; ((exact Ev.const))); exact rfl); (apply so_nil); (apply nm_then); (apply sc_seq); (apply sc_region); (apply so_ex; (apply ex_move; ((focus (repeat (first | exact Ev.same | apply Ev.other rfl | exact Ev.base (by assumption)))))); exact rfl); (apply so_makeMap; exact rfl; intro _); (apply so_ex; (apply ex_build; ((focus ((apply EvP.cons; (focus (repeat (first | exact Ev.same | apply Ev.other rfl | exact Ev.base (by assumption))))); (apply EvP.cons; (focus (repeat (first | exact Ev.same | apply Ev.other rfl | exact Ev.base (by assumption))))); exact EvP.nil))); assumption; ((focus (repeat (first | exact Bld.nil (by assumption) | (apply Bld.cons; assumption; exact rfl; exact rfl; (focus (repeat (first | exact SetSub.nil | apply SetSub.take | apply SetSub.drop))))))))); exact rfl); (apply so_box; (focus (repeat (first | exact Ev.same | apply Ev.other rfl | exact Ev.base (by assumption)))); exact rfl; exact rfl; intro _); (apply so_ex; (apply ex_assign; ((focus (repeat (first | exact Ev.same | apply Ev.other rfl | exact Ev.base (by assumption)))))); exact rfl); (apply so_nil); (apply nm_then); (apply sc_ret); (apply ret_ok; (focus ((apply Res.tmp; (focus (repeat (first | exact Ev.same | apply Ev.other rfl | exact Ev.base (by assumption))))); exact Res.nil)); ((rename_i m p; exact ⟨p, rfl, m, _, _, rfl, MapOf.empty⟩)); (focus (repeat (first | exact Sel.nil | (apply Sel.cons; (focus (repeat (first | exact Pick.here | apply Pick.there)))) | exact Sel.all | exact Sel.self | apply Sel.skip))); (focus (repeat (first | exact AppB.self | exact AppB.nil | apply AppB.cons)))))
theorem count_tri {p m : Nat} {most : Int} {es : Array MapEntry} {c : Nat} {S : List Lk} (hM : MapOf encLock (lv S) es c) : TriQ Try.prog 18 #[.pointer (some ⟨p, 0, none⟩)] (lBlk p m most es c) (.int .i64 S.length) := by
  have f_mixed := mixed; have f_fo79_1 := fo79_1; have f_ty4 := ty4; have f_ty77 := ty77; have f_un_30 : Und Try.prog 30 _ := ⟨Try.underlying30⟩; have f_un_77 : Und Try.prog 77 _ := ⟨Try.underlying77⟩; have f_zero4 := zero4; have f_zv4 := zv4
  refine tri_intro (args := [_]) Try.func18 rfl Try.ntmps18 rfl (rs := _) rfl rfl fun E R => ?_
  simp only [fr, lBlk, List.cons_append, List.nil_append]
  ((apply sc_seq); (apply sc_region); (apply so_ex; (apply ex_assign; ((exact Ev.const))); exact rfl); (apply so_nil); (apply nm_then); (apply sc_seq); (apply sc_seq); (apply sc_region); (apply so_ex; (apply ex_move; ((focus (repeat (first | exact Ev.same | apply Ev.other rfl | exact Ev.base (by assumption)))))); exact rfl); (apply so_ex; (apply ex_eqp_f; ((focus (repeat (first | exact Ev.same | apply Ev.other rfl | exact Ev.base (by assumption))))); ((exact Ev.const)); assumption); exact rfl); (apply so_nil); (apply nm_then); (apply sc_cond_false; ((focus (repeat (first | exact Ev.same | apply Ev.other rfl | exact Ev.base (by assumption)))))); (apply sc_skip); (apply nm_then); (apply sc_seq); (apply sc_region); (apply so_ex; (apply ex_move; ((focus (repeat (first | exact Ev.same | apply Ev.other rfl | exact Ev.base (by assumption)))))); exact rfl); (apply so_ex; (apply ex_nilCheck; ((focus (repeat (first | exact Ev.same | apply Ev.other rfl | exact Ev.base (by assumption)))))); exact rfl); (apply so_ex; (apply ex_fieldAddr; ((focus (repeat (first | exact Ev.same | apply Ev.other rfl | exact Ev.base (by assumption))))); assumption); exact rfl); (apply so_ex; (apply ex_load1; ((focus (repeat (first | exact Ev.same | apply Ev.other rfl | exact Ev.base (by assumption))))); assumption; ((focus (repeat (first | exact List.Mem.head _ | apply List.Mem.tail)))); ((focus (repeat (first | exact Nth.zero | apply Nth.succ))))); exact rfl); (apply so_ex; (apply ex_len_map; ((focus (repeat (first | exact Ev.same | apply Ev.other rfl | exact Ev.base (by assumption))))); ((focus (repeat (first | exact List.Mem.head _ | apply List.Mem.tail)))); assumption; assumption); exact rfl); (apply so_ex; (apply ex_assign; ((focus (repeat (first | exact Ev.same | apply Ev.other rfl | exact Ev.base (by assumption)))))); exact rfl); (apply so_nil); (apply nm_then); (apply sc_ret); (apply ret_ok; (focus ((apply Res.tmp; (focus (repeat (first | exact Ev.same | apply Ev.other rfl | exact Ev.base (by assumption))))); exact Res.nil)); (exact ⟨by simp [resVal, lv], rfl⟩); (focus (repeat (first | exact Sel.nil | (apply Sel.cons; (focus (repeat (first | exact Pick.here | apply Pick.there)))) | exact Sel.all | exact Sel.self | apply Sel.skip))); (focus (repeat (first | exact AppB.self | exact AppB.nil | apply AppB.cons)))))
theorem add1_tri (b3 b4 : Nat) (tx : Int) (t : Tgt) (k : Lk) : TriQ Try.prog 64 #[encLock k, .bool true, .pointer (some ⟨b3, 0, none⟩), .pointer (some ⟨b4, 0, none⟩)] [(b3, .cells [Value.int .i64 tx].toArray 3), (b4, .cells [Value.int .i64 t.kind, .int .i64 t.table, .int .i64 t.page, .int .i64 t.slot].toArray 23)] (.bool (decide (k.tx = tx) && coversT t k.on)) := by
  have f_mixed := mixed; have f_en49 := en49; have f_fo82_0 := fo82_0; have f_fo82_1 := fo82_1; have f_ty23 := ty23; have f_ty3 := ty3; have f_ty82 := ty82
  refine tri_intro (args := [_, _, _, _]) Try.func64 rfl Try.ntmps64 rfl (rs := _) rfl rfl fun E R => ?_
  simp only [fr, encLock, List.cons_append, List.nil_append]
  ((apply sc_seq); (apply sc_region); (apply so_box; (focus (repeat (first | exact Ev.same | apply Ev.other rfl | exact Ev.base (by assumption)))); exact rfl; exact rfl; intro _); (apply so_ex; (apply ex_assign; ((exact Ev.const))); exact rfl); (apply so_nil); (apply nm_then); (apply sc_seq); (apply sc_region); (apply so_ex; (apply ex_fieldAddr; ((focus (repeat (first | exact Ev.same | apply Ev.other rfl | exact Ev.base (by assumption))))); assumption); exact rfl); (apply so_ex; (apply ex_load1; ((focus (repeat (first | exact Ev.same | apply Ev.other rfl | exact Ev.base (by assumption))))); assumption; ((focus (repeat (first | exact List.Mem.head _ | apply List.Mem.tail)))); ((focus (repeat (first | exact Nth.zero | apply Nth.succ))))); exact rfl); (apply so_ex; (apply ex_load1; ((focus (repeat (first | exact Ev.same | apply Ev.other rfl | exact Ev.base (by assumption))))); assumption; ((focus (repeat (first | exact List.Mem.head _ | apply List.Mem.tail)))); ((focus (repeat (first | exact Nth.zero | apply Nth.succ))))); exact rfl); (apply so_split; (apply ex_eql; ((focus (repeat (first | exact Ev.same | apply Ev.other rfl | exact Ev.base (by assumption))))); ((focus (repeat (first | exact Ev.same | apply Ev.other rfl | exact Ev.base (by assumption)))))); exact rfl; refine ⟨fun _ => ?_, fun _ => ?_⟩); (apply so_ex; (apply ex_move; ((focus (repeat (first | exact Ev.same | apply Ev.other rfl | exact Ev.base (by assumption)))))); exact rfl); (apply so_want; exact rfl; ((focus (repeat (first | exact Ev.same | apply Ev.other rfl | exact Ev.base (by assumption))))); exact rfl; exact rfl); (apply so_ex; (apply ex_loadN; ((focus (repeat (first | exact Ev.same | apply Ev.other rfl | exact Ev.base (by assumption))))); assumption; ((focus (repeat (first | exact List.Mem.head _ | apply List.Mem.tail)))); ((focus (repeat (first | exact Sub.nil | apply Sub.take | apply Sub.drop))))); exact rfl); (apply so_want; exact rfl; ((focus (repeat (first | exact Ev.same | apply Ev.other rfl | exact Ev.base (by assumption))))); exact rfl; exact rfl); (apply so_ex; (apply ex_fieldAddr; ((focus (repeat (first | exact Ev.same | apply Ev.other rfl | exact Ev.base (by assumption))))); assumption); exact rfl); (apply so_want; exact rfl; ((focus (repeat (first | exact Ev.same | apply Ev.other rfl | exact Ev.base (by assumption))))); exact rfl; exact rfl); (apply so_ex; (apply ex_loadN; ((focus (repeat (first | exact Ev.same | apply Ev.other rfl | exact Ev.base (by assumption))))); assumption; ((focus (repeat (first | exact List.Mem.head _ | apply List.Mem.tail)))); ((focus (repeat (first | exact Sub.nil | apply Sub.take | apply Sub.drop))))); exact rfl); (apply so_want; exact rfl; ((focus (repeat (first | exact Ev.same | apply Ev.other rfl | exact Ev.base (by assumption))))); exact rfl; exact rfl); (apply so_callq; (exact Ev.func); (focus ((apply EvL.cons; (focus (repeat (first | exact Ev.same | apply Ev.other rfl | exact Ev.base (by assumption))))); (apply EvL.cons; (focus (repeat (first | exact Ev.same | apply Ev.other rfl | exact Ev.base (by assumption))))); exact EvL.nil)); (focus (repeat (first | exact App.nil | apply App.cons))); assumption; exact covers_tri' _ _ _ _ _ _ _ _ _ rfl; (focus (repeat (first | exact Sel.nil | (apply Sel.cons; (focus (repeat (first | exact Pick.here | apply Pick.there)))) | exact Sel.all | exact Sel.self | apply Sel.skip))); exact rfl); (apply so_ex; (apply ex_pick_t; ((focus (repeat (first | exact Ev.same | apply Ev.other rfl | exact Ev.base (by assumption))))); ((focus (repeat (first | exact Ev.same | apply Ev.other rfl | exact Ev.base (by assumption)))))); exact rfl); (apply so_ex; (apply ex_assign; ((focus (repeat (first | exact Ev.same | apply Ev.other rfl | exact Ev.base (by assumption)))))); exact rfl); (apply so_nil); (apply nm_then); (apply sc_ret); (apply ret_ok; (focus ((apply Res.tmp; (focus (repeat (first | exact Ev.same | apply Ev.other rfl | exact Ev.base (by assumption))))); exact Res.nil)); (exact ⟨by simp [resVal, *], rfl⟩); (focus (repeat (first | exact Sel.nil | (apply Sel.cons; (focus (repeat (first | exact Pick.here | apply Pick.there)))) | exact Sel.all | exact Sel.self | apply Sel.skip))); (focus (repeat (first | exact AppB.self | exact AppB.nil | apply AppB.cons)))); (apply so_ex; (apply ex_move; ((focus (repeat (first | exact Ev.same | apply Ev.other rfl | exact Ev.base (by assumption)))))); exact rfl); (apply so_skip; exact rfl; ((focus (repeat (first | exact Ev.same | apply Ev.other rfl | exact Ev.base (by assumption))))); exact rfl; exact rfl; exact rfl); (apply so_skip; exact rfl; ((focus (repeat (first | exact Ev.same | apply Ev.other rfl | exact Ev.base (by assumption))))); exact rfl; exact rfl; exact rfl); (apply so_skip; exact rfl; ((focus (repeat (first | exact Ev.same | apply Ev.other rfl | exact Ev.base (by assumption))))); exact rfl; exact rfl; exact rfl); (apply so_skip; exact rfl; ((focus (repeat (first | exact Ev.same | apply Ev.other rfl | exact Ev.base (by assumption))))); exact rfl; exact rfl; exact rfl); (apply so_ex; (apply ex_pick_f; ((focus (repeat (first | exact Ev.same | apply Ev.other rfl | exact Ev.base (by assumption))))); ((exact Ev.const))); exact rfl); (apply so_ex; (apply ex_assign; ((focus (repeat (first | exact Ev.same | apply Ev.other rfl | exact Ev.base (by assumption)))))); exact rfl); (apply so_nil); (apply nm_then); (apply sc_ret); (apply ret_ok; (focus ((apply Res.tmp; (focus (repeat (first | exact Ev.same | apply Ev.other rfl | exact Ev.base (by assumption))))); exact Res.nil)); (exact ⟨by simp [resVal, *], rfl⟩); (focus (repeat (first | exact Sel.nil | (apply Sel.cons; (focus (repeat (first | exact Pick.here | apply Pick.there)))) | exact Sel.all | exact Sel.self | apply Sel.skip))); (focus (repeat (first | exact AppB.self | exact AppB.nil | apply AppB.cons)))))
end Go.Proofs.Ytbpioemenmahaaa
