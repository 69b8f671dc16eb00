/- Locks: the waits-for graph: NewWaits, On, Done, Wait. Locks: the lock table: New, Count, DeleteFunc, add. Locks: maps.DeleteFunc, add. -/
import Derived.Test.YtbpioemenmahaaaQA
set_option linter.unusedVariables false
set_option linter.unusedSimpArgs false
set_option linter.unnecessarySimpa false
namespace Go.Proofs.Ytbpioemenmahaaa
open Go.Sym

abbrev ci (n : Int) : Value := .int .i64 n
theorem KL3 : KeyLaw (K := Int) Try.prog 3 (.int .i64) := KeyLaw.of_int Try.underlying3 fun b k w => by kernel_rfl
def wv (ws : List (Int × Int)) : List (Int × Value) := ws.map fun p => (p.1, .int .i64 p.2)
def onO (ws : List (Int × Int)) (t : Int) : Option Int := (ws.find? fun p => p.1 = t).map (·.2)
def onW (ws : List (Int × Int)) (t : Int) : Int := (onO ws t).getD 0
def hasW (ws : List (Int × Int)) (t : Int) : Bool := ws.any fun p => p.1 = t
def setW (ws : List (Int × Int)) (t o : Int) : List (Int × Int) := if hasW ws t then ws.map (fun p => if p.1 = t then (p.1, o) else p) else ws ++ [(t, o)]
def delW (ws : List (Int × Int)) (t : Int) : List (Int × Int) := ws.filter fun p => !decide (p.1 = t)
theorem lookV_wv (ws : List (Int × Int)) (t : Int) : lookV (wv ws) t = (onO ws t).map (Value.int .i64) := by
  induction ws with
  | nil => rfl
  | cons p ws ih =>
    unfold wv at *
    rw [List.map_cons, lookV_cons, ih]
    unfold onO
    by_cases h : p.1 = t <;> simp [h]
theorem look_wv {ws : List (Int × Int)} {t : Int} : (lookV (wv ws) t).getD (.int .i64 0) = .int .i64 (onW ws t) := by
  rw [lookV_wv]; unfold onW; cases onO ws t <;> rfl
theorem hasK_wv (ws : List (Int × Int)) (t : Int) : hasK (wv ws) t = hasW ws t := by
  unfold hasK hasW wv
  rw [List.any_map]; rfl
theorem putV_wv (ws : List (Int × Int)) (t o : Int) : putV (wv ws) t (.int .i64 o) = wv (setW ws t o) := by
  unfold putV setW
  rw [hasK_wv]
  split
  · simp only [wv, List.map_map]
    apply List.map_congr_left
    intro p _
    simp only [Function.comp]
    split <;> rfl
  · simp [wv]
theorem delV_wv (ws : List (Int × Int)) (t : Int) : delV (wv ws) t = wv (delW ws t) := by
  unfold delV delW wv
  rw [List.filter_map]; rfl

/-- a graph's blocks -/
abbrev wBlk (p m : Nat) (es : Array MapEntry) (c : Nat) : List Blk := [(p, .cells [Value.map (some m)].toArray 87), (m, .map es c)]
def WAt (p : Nat) (ws : List (Int × Int)) (L : List Blk) : Prop := ∃ m es c, L = wBlk p m es c ∧ MapOf (Value.int .i64) (wv ws) es c

theorem newWaits_tri : Tri Try.prog 20 #[] [] fun v L => ∃ p, v = .pointer (some ⟨p, 0, none⟩) ∧ WAt p [] L := by
  have f_mixed := mixed; have f_pl87_0 := pl87_0; have f_st87 := st87; have f_ty87 := ty87; have f_zero87 := zero87
  refine tri_intro (args := []) Try.func20 rfl Try.ntmps20 rfl (rs := _) rfl rfl fun E R => ?_
  simp only [fr, wBlk, List.cons_append, List.nil_append]
  (apply sc_seq; apply sc_region; (apply so_ex; (apply ex_assign; ((exact Ev.const))); exact rfl); apply so_nil; apply nm_then; apply sc_seq; apply sc_region; (apply so_makeMap; exact rfl; intro _); (apply so_ex; (apply ex_build; ((focus ((apply EvP.cons; (exact ev_)); exact EvP.nil))); assumption; ((focus (repeat (first | exact Bld.nil (by assumption) | (apply Bld.cons; assumption; exact rfl; exact rfl; (focus (repeat (first | exact SetSub.nil | apply SetSub.take | apply SetSub.drop))))))))); exact rfl); (apply so_box; (exact ev_); exact rfl; exact rfl; intro _); (apply so_ex; (apply ex_assign; (exact ev_)); exact rfl); apply so_nil; apply nm_then; (apply sc_ret); (apply ret_ok; (focus ((apply Res.tmp; (exact ev_)); exact Res.nil)); ((rename_i m p; exact ⟨p, rfl, m, _, _, rfl, MapOf.empty⟩)); (exact sel_); (exact appb_)))
theorem on_tri {p m : Nat} {es : Array MapEntry} {c : Nat} {ws : List (Int × Int)} (hM : MapOf (Value.int .i64) (wv ws) es c) (t : Int) : TriQ Try.prog 21 #[.pointer (some ⟨p, 0, none⟩), .int .i64 t] (wBlk p m es c) (.int .i64 (onW ws t)) := by
  have f_mixed := mixed; have f_fo87_0 := fo87_0; have f_ty3 := ty3; have f_ty85 := ty85; have f_un_39 : Und Try.prog 39 _ := ⟨Try.underlying39⟩; have f_un_85 : Und Try.prog 85 _ := ⟨Try.underlying85⟩; have f_zero3 := zero3; have f_zv3 := zv3
  have f_kl := KL3
  have f_v : (lookV (wv ws) t).getD (.int .i64 0) = .int .i64 (onW ws t) := look_wv
  refine tri_intro (args := [_, _]) Try.func21 rfl Try.ntmps21 rfl (rs := _) rfl rfl fun E R => ?_
  simp only [fr, wBlk, List.cons_append, List.nil_append]
  (apply sc_seq; apply sc_region; (apply so_ex; (apply ex_assign; ((exact Ev.const))); exact rfl); apply so_nil; apply nm_then; (apply sc_seq); apply sc_seq; apply sc_region; (apply so_ex; (apply ex_move; (exact ev_)); exact rfl); (apply so_ex; (apply ex_eqp_f; (exact ev_); ((exact Ev.const)); assumption); exact rfl); apply so_nil; apply nm_then; (apply sc_cond_false; (exact ev_)); (apply sc_skip); (apply nm_then); apply sc_seq; apply sc_region; (apply so_ex; (apply ex_move; (exact ev_)); exact rfl); (apply so_ex; (apply ex_nilCheck; (exact ev_)); exact rfl); (apply so_ex; (apply ex_fieldAddr; (exact ev_); assumption); exact rfl); (apply so_ex; (apply ex_load1; (exact ev_); assumption; (exact mem_); (exact nth_)); exact rfl); (apply so_ex; (apply ex_move; (exact ev_)); exact rfl); (apply so_ex; (apply ex_look; (exact ev_); (exact mem_); assumption; (exact ev_); (first | exact keyEq .. | exact rfl); assumption; assumption; assumption; (first | exact lookEq .. | exact lookEq3 .. | exact lookEq4 .. | assumption)); exact rfl); (apply so_ex; (apply ex_assign; (exact ev_)); exact rfl); apply so_nil; apply nm_then; (apply sc_ret); (apply ret_ok; (focus ((apply Res.tmp; (exact ev_)); exact Res.nil)); (exact ⟨rfl, rfl⟩); (exact sel_); (exact appb_)))
theorem done_tri {p m : Nat} {es : Array MapEntry} {c : Nat} {ws : List (Int × Int)} (hM : MapOf (Value.int .i64) (wv ws) es c) (t : Int) : Tri Try.prog 26 #[.pointer (some ⟨p, 0, none⟩), .int .i64 t] (wBlk p m es c) (fun _ L => WAt p (delW ws t) L) := by
  have f_mixed := mixed; have f_fo87_0 := fo87_0; have f_ty3 := ty3; have f_ty85 := ty85; have f_un_39 : Und Try.prog 39 _ := ⟨Try.underlying39⟩; have f_un_85 : Und Try.prog 85 _ := ⟨Try.underlying85⟩; have f_zero3 := zero3; have f_zv3 := zv3
  have f_kl := KL3
  refine tri_intro (args := [_, _]) Try.func26 rfl Try.ntmps26 rfl (rs := _) rfl rfl fun E R => ?_
  simp only [fr, wBlk, List.cons_append, List.nil_append]
  (apply sc_seq; apply sc_region; (apply so_ex; (apply ex_move; (exact ev_)); exact rfl); (apply so_ex; (apply ex_nep_t; (exact ev_); ((exact Ev.const)); assumption); exact rfl); apply so_nil; apply nm_then; (apply sc_cond_true; (exact ev_)); (apply sc_region); (apply so_ex; (apply ex_move; (exact ev_)); exact rfl); (apply so_ex; (apply ex_nilCheck; (exact ev_)); exact rfl); (apply so_ex; (apply ex_fieldAddr; (exact ev_); assumption); exact rfl); (apply so_ex; (apply ex_load1; (exact ev_); assumption; (exact mem_); (exact nth_)); exact rfl); (apply so_ex; (apply ex_move; (exact ev_)); exact rfl); (apply so_del; (exact ev_); (intro _ _; (focus (repeat (first | exact Turn.here | apply Turn.there)))); assumption; (exact ev_); (first | exact keyEq .. | exact rfl); assumption; assumption; intro _ _ _); (apply so_nil); (apply ret_ok'; (focus (exact Res.nil)); (exact ⟨m, _, _, rfl, by rw [← delV_wv]; assumption⟩); (exact sel_); (exact appb_)))
theorem lookEq (ws : List (Int × Int)) (t : Int) : (lookV (wv ws) t).getD (.int .i64 0) = .int .i64 (onW ws t) := look_wv
def itW (ws : List (Int × Int)) : Nat → Int → Int
  | 0, x => x
  | n + 1, x => itW ws n (onW ws x)
/-- no cycle -/
def AcW (ws : List (Int × Int)) : Prop := (∀ x, ∃ n, itW ws n x = 0) ∧ onW ws 0 = 0
theorem itW_zero {ws : List (Int × Int)} (h : onW ws 0 = 0) (n : Nat) : itW ws n 0 = 0 := by
  induction n with
  | zero => rfl
  | succ n ih => simp [itW, h, ih]
theorem itW_succ (ws : List (Int × Int)) : ∀ (n : Nat) (x : Int), itW ws (n + 1) x = onW ws (itW ws n x)
  | 0, _ => rfl
  | n + 1, x => itW_succ ws n (onW ws x)
theorem waitArg_tri {p m : Nat} {es : Array MapEntry} {c : Nat} {tx on : Int} (h : tx < 1 ∨ on < 1) : TriQ Try.prog 22 #[.pointer (some ⟨p, 0, none⟩), .int .i64 tx, .int .i64 on] (wBlk p m es c) (.int .i64 1) := by
  have f_mixed := mixed; have f_fo87_0 := fo87_0; have f_ty3 := ty3; have f_ty85 := ty85; have f_un_39 : Und Try.prog 39 _ := ⟨Try.underlying39⟩; have f_un_85 : Und Try.prog 85 _ := ⟨Try.underlying85⟩; have f_zero3 := zero3; have f_zv3 := zv3
  refine tri_intro (args := [_, _, _]) Try.func22 rfl Try.ntmps22 rfl (rs := _) rfl rfl fun E R => ?_
  simp only [fr, wBlk, List.cons_append, List.nil_append]
  (apply sc_seq; apply sc_region; (apply so_ex; (apply ex_assign; ((exact Ev.const))); exact rfl); apply so_nil; apply nm_then; (apply sc_seq); apply sc_seq; apply sc_region; (apply so_ex; (apply ex_move; (exact ev_)); exact rfl); (apply so_ex; (apply ex_eqp_f; (exact ev_); ((exact Ev.const)); assumption); exact rfl); (apply so_ex; (apply ex_move; (exact ev_)); exact rfl); (apply so_want; exact rfl; (exact ev_); exact rfl; exact rfl); (apply so_ex; (apply ex_move; (exact ev_)); exact rfl); (apply so_want; exact rfl; (exact ev_); exact rfl; exact rfl); (apply so_split; (apply ex_lss; (exact ev_); ((exact Ev.const))); exact rfl; refine ⟨fun _ => ?_, fun _ => ?_⟩); (apply so_ex; (apply ex_pick_f; (exact ev_); (exact ev_)); exact rfl); (apply so_ex; (apply ex_move; (exact ev_)); exact rfl); (apply so_skip; exact rfl; (exact ev_); exact rfl; exact rfl; exact rfl); (apply so_skip; exact rfl; (exact ev_); exact rfl; exact rfl; exact rfl); (apply so_ex; (apply ex_pick_t; (exact ev_); ((exact Ev.const))); exact rfl); apply so_nil; apply nm_then; (apply sc_cond_true; (exact ev_)); apply sc_seq; apply sc_region; (apply so_ex; (apply ex_assign; ((exact Ev.const))); exact rfl); apply so_nil; apply nm_then; (apply sc_ret); (apply rt_then); (apply ret_ok; (focus ((apply Res.tmp; (exact ev_)); exact Res.nil)); (exact ⟨rfl, rfl⟩); (exact sel_); (exact appb_)); (apply so_ex; (apply ex_pick_f; (exact ev_); (exact ev_)); exact rfl); (apply so_ex; (apply ex_move; (exact ev_)); exact rfl); (apply so_want; exact rfl; (exact ev_); exact rfl; exact rfl); (apply so_ex; (apply ex_move; (exact ev_)); exact rfl); (apply so_want; exact rfl; (exact ev_); exact rfl; exact rfl); (apply so_ex; (apply ex_lss_t; (exact ev_); ((exact Ev.const)); (first | assumption | omega)); exact rfl); (apply so_ex; (apply ex_pick_f; (exact ev_); (exact ev_)); exact rfl); apply so_nil; apply nm_then; (apply sc_cond_true; (exact ev_)); apply sc_seq; apply sc_region; (apply so_ex; (apply ex_assign; ((exact Ev.const))); exact rfl); apply so_nil; apply nm_then; (apply sc_ret); (apply rt_then); (apply ret_ok; (focus ((apply Res.tmp; (exact ev_)); exact Res.nil)); (exact ⟨rfl, rfl⟩); (exact sel_); (exact appb_)))
theorem wait_tri {p m : Nat} {es : Array MapEntry} {c : Nat} {ws : List (Int × Int)} (hM : MapOf (Value.int .i64) (wv ws) es c) (hA : AcW ws) {tx on : Int} (h1 : 1 ≤ tx) (h2 : 1 ≤ on) : Tri Try.prog 22 #[.pointer (some ⟨p, 0, none⟩), .int .i64 tx, .int .i64 on] (wBlk p m es c)
    fun v L => (v = .int .i64 44 ∧ (∃ j, itW ws j on = tx) ∧ WAt p ws L) ∨ (v = .int .i64 0 ∧ (∀ j, itW ws j on ≠ tx) ∧ WAt p (setW ws tx on) L) := by
  have f_mixed := mixed; have f_fo87_0 := fo87_0; have f_ty3 := ty3; have f_ty85 := ty85; have f_un_39 : Und Try.prog 39 _ := ⟨Try.underlying39⟩; have f_un_85 : Und Try.prog 85 _ := ⟨Try.underlying85⟩; have f_zero3 := zero3; have f_zv3 := zv3
  have f_kl := KL3
  refine tri_intro (args := [_, _, _]) Try.func22 rfl Try.ntmps22 rfl (rs := _) rfl rfl fun E R => ?_
  simp only [fr, wBlk, List.cons_append, List.nil_append]
  (apply sc_seq; apply sc_region; (apply so_ex; (apply ex_assign; ((exact Ev.const))); exact rfl); apply so_nil; apply nm_then; (apply sc_seq); apply sc_seq; apply sc_region; (apply so_ex; (apply ex_move; (exact ev_)); exact rfl); (apply so_ex; (apply ex_eqp_f; (exact ev_); ((exact Ev.const)); assumption); exact rfl); (apply so_ex; (apply ex_move; (exact ev_)); exact rfl); (apply so_want; exact rfl; (exact ev_); exact rfl; exact rfl); (apply so_ex; (apply ex_move; (exact ev_)); exact rfl); (apply so_want; exact rfl; (exact ev_); exact rfl; exact rfl); (apply so_ex; (apply ex_lss_f; (exact ev_); ((exact Ev.const)); (first | assumption | omega)); exact rfl); (apply so_ex; (apply ex_pick_f; (exact ev_); (exact ev_)); exact rfl); (apply so_ex; (apply ex_move; (exact ev_)); exact rfl); (apply so_want; exact rfl; (exact ev_); exact rfl; exact rfl); (apply so_ex; (apply ex_move; (exact ev_)); exact rfl); (apply so_want; exact rfl; (exact ev_); exact rfl; exact rfl); (apply so_ex; (apply ex_lss_f; (exact ev_); ((exact Ev.const)); (first | assumption | omega)); exact rfl); (apply so_ex; (apply ex_pick_f; (exact ev_); (exact ev_)); exact rfl); apply so_nil; apply nm_then; (apply sc_cond_false; (exact ev_)); (apply sc_skip); (apply nm_then); (apply sc_seq); apply sc_seq; apply sc_region; (apply so_ex; (apply ex_move; (exact ev_)); exact rfl); (apply so_ex; (apply ex_assign; (exact ev_)); exact rfl); apply so_nil; apply nm_then; (apply sc_block))
  obtain ⟨k0, hk0⟩ := hA.1 on
  refine sc_loop (fun k f L => ∃ x, At f 0 (.pointer (some ⟨p, 0, none⟩)) ∧ At f 1 (.int .i64 tx) ∧ At f 2 (.int .i64 on) ∧ At f 7 (.int .i64 x) ∧ L = (p, .cells [Value.map (some m)].toArray 87) :: (m, .map es c) :: R ∧ itW ws k x = 0 ∧ (∃ j, itW ws j on = x) ∧ (∀ j, itW ws j on = tx → ∃ j', itW ws j' x = tx)) k0 ⟨on, (by apply Ev.at; (exact ev_)), (by apply Ev.at; (exact ev_)), (by apply Ev.at; (exact ev_)), (by apply Ev.at; (exact ev_)), rfl, hk0, ⟨0, rfl⟩, fun j hj => ⟨j, hj⟩⟩ ?_
  rintro k f L ⟨x, a0, a1, a2, a7, rfl, hz, hh1, hh2⟩
  ((apply sc_seq); apply sc_seq; apply sc_region; (apply so_ex; (apply ex_move; (exact ev_)); exact rfl); (apply so_split; (apply ex_neq; (exact ev_); ((exact Ev.const))); exact rfl; refine ⟨fun _ => ?_, fun _ => ?_⟩); apply so_nil; apply nm_then; (apply sc_cond_true; (exact ev_)); (apply sc_skip); (apply nm_then); (apply sc_seq); (apply sc_block); apply sc_seq; apply sc_region; (apply so_ex; (apply ex_move; (exact ev_)); exact rfl); (apply so_ex; (apply ex_move; (exact ev_)); exact rfl); (apply so_split; (apply ex_eql; (exact ev_); (exact ev_)); exact rfl; refine ⟨fun _ => ?_, fun _ => ?_⟩); apply so_nil; apply nm_then; (apply sc_cond_true; (exact ev_)); apply sc_seq; apply sc_region; (apply so_ex; (apply ex_assign; ((exact Ev.const))); exact rfl); apply so_nil; apply nm_then; (apply sc_ret); (apply rt_block); (apply rt_then); (apply rt_then); (apply rt_block); (apply rt_then))
  · rename_i _ hx
    (apply ret_ok; (focus ((apply Res.tmp; (exact ev_)); exact Res.nil)); (exact .inl ⟨rfl, hx ▸ hh1, m, _, _, rfl, hM⟩); (exact sel_); (exact appb_))
  · rename_i hx0 hx
    (apply so_nil; apply nm_then; (apply sc_cond_false; (exact ev_)); (apply sc_skip); (apply nm_block); (apply nm_then); (apply sc_region); (apply so_ex; (apply ex_move; (exact ev_)); exact rfl); (apply so_ex; (apply ex_nilCheck; (exact ev_)); exact rfl); (apply so_ex; (apply ex_fieldAddr; (exact ev_); assumption); exact rfl); (apply so_ex; (apply ex_load1; (exact ev_); assumption; (exact mem_); (exact nth_)); exact rfl); (apply so_ex; (apply ex_move; (exact ev_)); exact rfl); (apply so_ex; (apply ex_look; (exact ev_); (exact mem_); assumption; (exact ev_); (first | exact keyEq .. | exact rfl); assumption; assumption; assumption; (first | exact lookEq .. | exact lookEq3 .. | exact lookEq4 .. | assumption)); exact rfl); (apply so_ex; (apply ex_assign; (exact ev_)); exact rfl); (apply so_nil); (apply nm_then))
    cases k with
    | zero => exact absurd hz hx0
    | succ k =>
      obtain ⟨j1, hj1⟩ := hh1
      refine ⟨k, Nat.lt_succ_self _, onW ws x, (by apply Ev.at; (exact ev_)), (by apply Ev.at; (exact ev_)), (by apply Ev.at; (exact ev_)), (by apply Ev.at; (exact ev_)), rfl, hz, ⟨j1 + 1, ?_⟩, fun j hj => ?_⟩
      · rw [← hj1]; exact itW_succ ..
      · obtain ⟨j', hj'⟩ := hh2 j hj
        cases j' with
        | zero => exact absurd hj' hx
        | succ j' => exact ⟨j', hj'⟩
  · rename_i hx0
    have hx : x = 0 := Classical.not_not.1 hx0
    have hno : ∀ j, itW ws j on ≠ tx := fun j hj => by
      obtain ⟨j', hj'⟩ := hh2 j hj
      rw [hx, itW_zero hA.2] at hj'
      omega
    (apply so_nil; apply nm_then; (apply sc_cond_false; (exact ev_)); (apply sc_exit); (apply et_then); (apply et_then); (apply et_hit); (apply nm_then); (apply sc_seq); apply sc_seq; apply sc_region; (apply so_ex; (apply ex_move; (exact ev_)); exact rfl); (apply so_ex; (apply ex_nilCheck; (exact ev_)); exact rfl); (apply so_ex; (apply ex_fieldAddr; (exact ev_); assumption); exact rfl); (apply so_ex; (apply ex_load1; (exact ev_); assumption; (exact mem_); (exact nth_)); exact rfl); (apply so_ex; (apply ex_eqm_f; (exact ev_); ((exact Ev.const)); assumption); exact rfl); apply so_nil; apply nm_then; (apply sc_cond_false; (exact ev_)); (apply sc_skip); (apply nm_then); apply sc_seq; apply sc_region; (apply so_ex; (apply ex_move; (exact ev_)); exact rfl); (apply so_ex; (apply ex_nilCheck; (exact ev_)); exact rfl); (apply so_ex; (apply ex_fieldAddr; (exact ev_); assumption); exact rfl); (apply so_ex; (apply ex_load1; (exact ev_); assumption; (exact mem_); (exact nth_)); exact rfl); (apply so_ex; (apply ex_move; (exact ev_)); exact rfl); (apply so_ex; (apply ex_move; (exact ev_)); exact rfl); (apply so_mapUp; (exact ev_); (intro _ _; (focus (repeat (first | exact Turn.here | apply Turn.there)))); assumption; (exact ev_); (first | exact keyEq .. | exact rfl); (exact ev_); assumption; assumption; intro _ _ _); apply so_nil; apply nm_then; apply sc_seq; apply sc_region; (apply so_ex; (apply ex_assign; ((exact Ev.const))); exact rfl); apply so_nil; apply nm_then; (apply sc_ret); (apply ret_ok; (focus ((apply Res.tmp; (exact ev_)); exact Res.nil)); (exact .inr ⟨rfl, hno, m, _, _, rfl, by rw [← putV_wv]; assumption⟩); (exact sel_); (exact appb_)))
end Go.Proofs.Ytbpioemenmahaaa
namespace Go.Proofs.Ytbpioemenmahaaa
open Go.Sym

structure Lk where
  tx : Int
  on : Tgt
  deriving DecidableEq
def encLock (k : Lk) : Value := .agg #[.int .i64 k.tx, .int .i64 k.on.kind, .int .i64 k.on.table, .int .i64 k.on.page, .int .i64 k.on.slot]
theorem encLock_inj (a b : Lk) (h : encLock a = encLock b) : a = b := by
  obtain ⟨t, k, x, y, z⟩ := a; obtain ⟨t', k', x', y', z'⟩ := b
  simp [encLock] at h
  simp [h]
theorem lock_run (a b c d e a' b' c' d' e' : Int) (w : World) : (Op.equal 82 (.agg #[.int .i64 a, .int .i64 b, .int .i64 c, .int .i64 d, .int .i64 e]) (.agg #[.int .i64 a', .int .i64 b', .int .i64 c', .int .i64 d', .int .i64 e'])).run Try.prog w
    = .ok (decide (a = a' ∧ b = b' ∧ c = c' ∧ d = d' ∧ e = e')) w := by
  by_cases h1 : a = a'
  · by_cases h2 : b = b'
    · by_cases h3 : c = c'
      · by_cases h4 : d = d'
        · by_cases h5 : e = e' <;> simp [Op.equal, Op.maxDepth, go_sem, h1, h2, h3, h4, h5]
        · simp [Op.equal, Op.maxDepth, go_sem, h1, h2, h3, h4]
      · simp [Op.equal, Op.maxDepth, go_sem, h1, h2, h3]
    · simp [Op.equal, Op.maxDepth, go_sem, h1, h2]
  · simp [Op.equal, Op.maxDepth, go_sem, h1]
theorem KL82 : KeyLaw Try.prog 82 encLock := KeyLaw.of_struct Try.underlying82 (fun _ _ => rfl)
  (fun b k w => (by kernel_rfl : (Instr.checkKey b 10000 82 (.agg #[.int .i64 k.tx, .int .i64 k.on.kind, .int .i64 k.on.table, .int .i64 k.on.page, .int .i64 k.on.slot])).run Try.prog w = .ok () w))
  (fun k => by simp [Instr.sameBits, encLock])
  (fun k k' w => by
    have h := lock_run k.tx k.on.kind k.on.table k.on.page k.on.slot k'.tx k'.on.kind k'.on.table k'.on.page k'.on.slot w
    have e : decide (k.tx = k'.tx ∧ k.on.kind = k'.on.kind ∧ k.on.table = k'.on.table ∧ k.on.page = k'.on.page ∧ k.on.slot = k'.on.slot) = decide (k = k') := by
      rw [decide_eq_decide]
      obtain ⟨t, k, x, y, z⟩ := k; obtain ⟨t', k', x', y', z'⟩ := k'
      simp
    rw [e] at h
    exact h)
theorem keyEq (a b c d e : Int) : Value.agg #[.int .i64 a, .int .i64 b, .int .i64 c, .int .i64 d, .int .i64 e] = encLock ⟨a, ⟨b, c, d, e⟩⟩ := rfl

def lv (S : List Lk) : List (Lk × Value) := S.map fun k => (k, .bool true)
theorem lookV_lv (S : List Lk) (k : Lk) : lookV (lv S) k = if k ∈ S then some (.bool true) else none := by
  induction S with
  | nil => rfl
  | cons a S ih =>
    unfold lv at *
    rw [List.map_cons, lookV_cons, ih]
    by_cases h : a = k
    · simp [h]
    · have : ¬ k = a := fun e => h e.symm
      simp [h, this]
theorem lookEq2 (S : List Lk) (k : Lk) : (lookV (lv S) k).getD (.bool false) = .bool (decide (k ∈ S)) := by
  rw [lookV_lv]
  by_cases h : k ∈ S <;> simp [h]
theorem hasK_lv (S : List Lk) (k : Lk) : hasK (lv S) k = decide (k ∈ S) := by
  rw [← lookV_isSome, lookV_lv]
  by_cases h : k ∈ S <;> simp [h]
theorem delV_lv (S : List Lk) (k : Lk) : delV (lv S) k = lv (S.filter fun x => !decide (x = k)) := by
  unfold delV lv
  rw [List.filter_map]; rfl
theorem putV_lv (S : List Lk) (k : Lk) : putV (lv S) k (.bool true) = lv (if k ∈ S then S else S ++ [k]) := by
  unfold putV
  rw [hasK_lv]
  by_cases h : k ∈ S
  · simp only [h, decide_true, if_true]
    unfold lv
    rw [List.map_map]
    apply List.map_congr_left
    intro a _
    simp only [Function.comp]
    split <;> rfl
  · simp [h, lv]
theorem lv_nodup {S : List Lk} {es : Array MapEntry} {c : Nat} (h : MapOf encLock (lv S) es c) : S.Nodup := by
  have := h.keys
  unfold lv at this
  simpa [Function.comp_def] using this

abbrev lBlk (p m : Nat) (most : Int) (es : Array MapEntry) (c : Nat) : List Blk := [(p, .cells [Value.int .i64 most, Value.map (some m)].toArray 79), (m, .map es c)]
def LAt (p : Nat) (most : Int) (S : List Lk) (L : List Blk) : Prop := ∃ m es c, L = lBlk p m most es c ∧ MapOf encLock (lv S) es c

theorem new_tri (most : Int) : Tri Try.prog 14 #[.int .i64 most] [] fun v L => ∃ p, v = .pointer (some ⟨p, 0, none⟩) ∧ LAt p most [] L := by
  have f_mixed := mixed; have f_pl79_0 := pl79_0; have f_pl79_1 := pl79_1; have f_st79 := st79; have f_ty79 := ty79; have f_zero79 := zero79
  refine tri_intro (args := [_]) Try.func14 rfl Try.ntmps14 rfl (rs := _) rfl rfl fun E R => ?_
  simp only [fr, List.cons_append, List.nil_append]
  (apply sc_seq; apply sc_region; (apply so_ex; (apply ex_assign; ((exact Ev.const))); exact rfl); apply so_nil; apply nm_then; apply sc_seq; apply sc_region; (apply so_ex; (apply ex_move; (exact ev_)); exact rfl); (apply so_makeMap; exact rfl; intro _); (apply so_ex; (apply ex_build; ((focus ((apply EvP.cons; (exact ev_)); (apply EvP.cons; (exact ev_)); exact EvP.nil))); assumption; ((focus (repeat (first | exact Bld.nil (by assumption) | (apply Bld.cons; assumption; exact rfl; exact rfl; (focus (repeat (first | exact SetSub.nil | apply SetSub.take | apply SetSub.drop))))))))); exact rfl); (apply so_box; (exact ev_); exact rfl; exact rfl; intro _); (apply so_ex; (apply ex_assign; (exact ev_)); exact rfl); apply so_nil; apply nm_then; (apply sc_ret); (apply ret_ok; (focus ((apply Res.tmp; (exact ev_)); exact Res.nil)); ((rename_i m p; exact ⟨p, rfl, m, _, _, rfl, MapOf.empty⟩)); (exact sel_); (exact appb_)))
theorem count_tri {p m : Nat} {most : Int} {es : Array MapEntry} {c : Nat} {S : List Lk} (hM : MapOf encLock (lv S) es c) : TriQ Try.prog 18 #[.pointer (some ⟨p, 0, none⟩)] (lBlk p m most es c) (.int .i64 S.length) := by
  have f_mixed := mixed; have f_fo79_1 := fo79_1; have f_ty4 := ty4; have f_ty77 := ty77; have f_un_30 : Und Try.prog 30 _ := ⟨Try.underlying30⟩; have f_un_77 : Und Try.prog 77 _ := ⟨Try.underlying77⟩; have f_zero4 := zero4; have f_zv4 := zv4
  refine tri_intro (args := [_]) Try.func18 rfl Try.ntmps18 rfl (rs := _) rfl rfl fun E R => ?_
  simp only [fr, lBlk, List.cons_append, List.nil_append]
  (apply sc_seq; apply sc_region; (apply so_ex; (apply ex_assign; ((exact Ev.const))); exact rfl); apply so_nil; apply nm_then; (apply sc_seq); apply sc_seq; apply sc_region; (apply so_ex; (apply ex_move; (exact ev_)); exact rfl); (apply so_ex; (apply ex_eqp_f; (exact ev_); ((exact Ev.const)); assumption); exact rfl); apply so_nil; apply nm_then; (apply sc_cond_false; (exact ev_)); (apply sc_skip); (apply nm_then); apply sc_seq; apply sc_region; (apply so_ex; (apply ex_move; (exact ev_)); exact rfl); (apply so_ex; (apply ex_nilCheck; (exact ev_)); exact rfl); (apply so_ex; (apply ex_fieldAddr; (exact ev_); assumption); exact rfl); (apply so_ex; (apply ex_load1; (exact ev_); assumption; (exact mem_); (exact nth_)); exact rfl); (apply so_ex; (apply ex_len_map; (exact ev_); (exact mem_); assumption; assumption); exact rfl); (apply so_ex; (apply ex_assign; (exact ev_)); exact rfl); apply so_nil; apply nm_then; (apply sc_ret); (apply ret_ok; (focus ((apply Res.tmp; (exact ev_)); exact Res.nil)); (exact ⟨by simp [resVal, lv], rfl⟩); (exact sel_); (exact appb_)))
theorem add1_tri (b3 b4 : Nat) (tx : Int) (t : Tgt) (k : Lk) : TriQ Try.prog 64 #[encLock k, .bool true, .pointer (some ⟨b3, 0, none⟩), .pointer (some ⟨b4, 0, none⟩)] [(b3, .cells [Value.int .i64 tx].toArray 3), (b4, .cells [Value.int .i64 t.kind, .int .i64 t.table, .int .i64 t.page, .int .i64 t.slot].toArray 23)] (.bool (decide (k.tx = tx) && coversT t k.on)) := by
  have f_mixed := mixed; have f_en49 := en49; have f_fo82_0 := fo82_0; have f_fo82_1 := fo82_1; have f_ty23 := ty23; have f_ty3 := ty3; have f_ty82 := ty82
  refine tri_intro (args := [_, _, _, _]) Try.func64 rfl Try.ntmps64 rfl (rs := _) rfl rfl fun E R => ?_
  simp only [fr, encLock, List.cons_append, List.nil_append]
  (apply sc_seq; apply sc_region; (apply so_box; (exact ev_); exact rfl; exact rfl; intro _); (apply so_ex; (apply ex_assign; ((exact Ev.const))); exact rfl); apply so_nil; apply nm_then; apply sc_seq; apply sc_region; (apply so_ex; (apply ex_fieldAddr; (exact ev_); assumption); exact rfl); (apply so_ex; (apply ex_load1; (exact ev_); assumption; (exact mem_); (exact nth_)); exact rfl); (apply so_ex; (apply ex_load1; (exact ev_); assumption; (exact mem_); (exact nth_)); exact rfl); (apply so_split; (apply ex_eql; (exact ev_); (exact ev_)); exact rfl; refine ⟨fun _ => ?_, fun _ => ?_⟩); (apply so_ex; (apply ex_move; (exact ev_)); exact rfl); (apply so_want; exact rfl; (exact ev_); exact rfl; exact rfl); (apply so_ex; (apply ex_loadN; (exact ev_); assumption; (exact mem_); (exact sub_)); exact rfl); (apply so_want; exact rfl; (exact ev_); exact rfl; exact rfl); (apply so_ex; (apply ex_fieldAddr; (exact ev_); assumption); exact rfl); (apply so_want; exact rfl; (exact ev_); exact rfl; exact rfl); (apply so_ex; (apply ex_loadN; (exact ev_); assumption; (exact mem_); (exact sub_)); exact rfl); (apply so_want; exact rfl; (exact ev_); exact rfl; exact rfl); (apply so_callq; (exact Ev.func); (focus ((apply EvL.cons; (exact ev_)); (apply EvL.cons; (exact ev_)); exact EvL.nil)); (focus (repeat (first | exact App.nil | apply App.cons))); assumption; exact covers_tri' _ _ _ _ _ _ _ _ _ rfl; (exact sel_); exact rfl); (apply so_ex; (apply ex_pick_t; (exact ev_); (exact ev_)); exact rfl); (apply so_ex; (apply ex_assign; (exact ev_)); exact rfl); apply so_nil; apply nm_then; (apply sc_ret); (apply ret_ok; (focus ((apply Res.tmp; (exact ev_)); exact Res.nil)); (exact ⟨by simp [resVal, *], rfl⟩); (exact sel_); (exact appb_)); (apply so_ex; (apply ex_move; (exact ev_)); exact rfl); (apply so_skip; exact rfl; (exact ev_); exact rfl; exact rfl; exact rfl); (apply so_skip; exact rfl; (exact ev_); exact rfl; exact rfl; exact rfl); (apply so_skip; exact rfl; (exact ev_); exact rfl; exact rfl; exact rfl); (apply so_skip; exact rfl; (exact ev_); exact rfl; exact rfl; exact rfl); (apply so_ex; (apply ex_pick_f; (exact ev_); ((exact Ev.const))); exact rfl); (apply so_ex; (apply ex_assign; (exact ev_)); exact rfl); apply so_nil; apply nm_then; (apply sc_ret); (apply ret_ok; (focus ((apply Res.tmp; (exact ev_)); exact Res.nil)); (exact ⟨by simp [resVal, *], rfl⟩); (exact sel_); (exact appb_)))
end Go.Proofs.Ytbpioemenmahaaa
namespace Go.Proofs.Ytbpioemenmahaaa
open Go.Sym

theorem unseen_lt {α : Type} [DecidableEq α] {S vis : List α} {k : α} (hk : k ∈ S) (hv : k ∉ vis) : (S.filter fun x => decide (x ∉ k :: vis)).length < (S.filter fun x => decide (x ∉ vis)).length := by
  have h1 : (S.filter fun x => decide (x ∉ k :: vis)) = (S.filter fun x => decide (x ∉ vis)).filter fun x => decide (x ≠ k) := by
    rw [List.filter_filter]
    apply List.filter_congr
    intro x _
    rw [Bool.eq_iff_iff]; simp
  rw [h1]
  refine List.length_filter_lt_length_iff_exists.2 ⟨k, ?_, by simp⟩
  simp [hk, hv]
theorem mem_lv {S : List Lk} {p : Lk × Value} (h : p ∈ lv S) : p.1 ∈ S ∧ p.2 = .bool true := by
  unfold lv at h
  obtain ⟨k, hk, rfl⟩ := List.mem_map.1 h
  exact ⟨hk, rfl⟩
theorem deleteFunc_tri {g : FuncId} {cap : List Value} {preC : List Blk} {m : Nat} {es : Array MapEntry} {c : Nat} {S : List Lk} {pr : Lk → Bool} (hM : MapOf encLock (lv S) es c) (hen : Enters Try.prog g)
    (hg : ∀ k : Lk, TriQ Try.prog g (encLock k :: .bool true :: cap).toArray preC (.bool (pr k))) :
    Tri Try.prog 63 #[.map (some m), .func (.func g) #[] cap.toArray] ((m, .map es c) :: preC) (fun _ L => ∃ es', L = (m, .map es' c) :: preC ∧ MapOf encLock (lv (S.filter fun k => !pr k)) es' c) := by
  have f_mixed := mixed; have f_ty4 := ty4; have f_ty82 := ty82; have f_un_77 : Und Try.prog 77 _ := ⟨Try.underlying77⟩; have f_zero4 := zero4; have f_zero82 := zero82; have f_zv4 := zv4
  have f_kl := KL82
  refine tri_intro (args := [_, _]) Try.func63 rfl Try.ntmps63 rfl (rs := _) rfl rfl fun E R => ?_
  simp only [fr, List.cons_append, List.nil_append]
  (apply sc_seq; apply sc_region; (apply so_ex; (apply ex_move; (exact ev_)); exact rfl); (apply so_range; (exact ev_); (exact mem_); assumption; exact rfl; intro _); apply so_nil; apply nm_then; (apply sc_block))
  rename_i r
  refine sc_loop (fun k f L => ∃ es' seen vis, At f 0 (.map (some m)) ∧ At f 1 (.func (.func g) #[] cap.toArray) ∧ At f 7 (.pointer (some ⟨r, 0, none⟩)) ∧ Held L ((r, .mapIter (some m) c seen c) :: (m, .map es' c) :: preC) R ∧ MapOf encLock (lv (S.filter fun x => !(decide (x ∈ vis) && pr x))) es' c ∧ Iter encLock es' c seen vis ∧ k = (S.filter fun x => decide (x ∉ vis)).length)
    _ ⟨es, #[], [], (by apply Ev.at; (exact ev_)), (by apply Ev.at; (exact ev_)), (by apply Ev.at; (exact ev_)), (by apply held; (exact sel_); (exact appb_)), by rw [List.filter_eq_self.2 (by simp)]; exact hM, Iter.start hM, rfl⟩ ?_
  rintro k f L ⟨es', seen, vis, a0, a1, a7, ⟨G, hG⟩, hM', hI, hk⟩
  refine sc_perm hG ?_
  simp only [List.cons_append, List.nil_append]
  ((apply sc_seq); (apply sc_region))
  apply so_nxt; (exact ev_); (intro _; (focus (repeat (first | exact Turn.here | apply Turn.there)))); (exact mem_); assumption; assumption; (exact Nat.le_refl _); (exact encLock_inj); exact rfl
  · intro hall
    have he : (S.filter fun x => !(decide (x ∈ vis) && pr x)) = S.filter fun k => !pr k := by
      apply List.filter_congr
      intro x hx
      cases hp : pr x with
      | false => simp
      | true =>
        cases hv : decide (x ∈ vis) with
        | true => simp
        | false =>
          exfalso
          have hx' : x ∈ S.filter fun x => !(decide (x ∈ vis) && pr x) := List.mem_filter.2 ⟨hx, by simp [hv]⟩
          have := hall (x, .bool true) (List.mem_map.2 ⟨x, hx', rfl⟩)
          simp at hv this; exact hv this
    rw [he] at hM'
    ((apply so_ex; (apply ex_extract; (exact ev_); (exact nth_)); exact rfl); apply so_nil; apply nm_then; (apply sc_seq); (apply sc_cond_false; (exact ev_)); (apply sc_exit); (apply et_then); (apply et_then); (apply et_hit); (apply ret_ok'; (focus (exact Res.nil)); (exact ⟨es', rfl, hM'⟩); (exact sel_); (exact appb_)))
  · rintro p seen' hp hnv hI' hcur
    obtain ⟨hpS, hp2⟩ := mem_lv hp
    obtain ⟨k1, v1⟩ := p
    simp only at hpS hp2 hnv hI' hcur
    subst hp2
    have hkS := (List.mem_filter.1 hpS).1
    have hlt := unseen_lt hkS hnv
    have hgk := hg k1
    have f_key : encLock k1 = encLock k1 := rfl
    obtain ⟨tx, kd, tb, pg, sl⟩ := k1
    simp only [encLock] at hgk hcur ⊢
    cases hpk : pr ⟨tx, ⟨kd, tb, pg, sl⟩⟩ with
    | false =>
      rw [hpk] at hgk
      ((apply so_ex; (apply ex_extract; (exact ev_); (exact nth_)); exact rfl); apply so_nil; apply nm_then; (apply sc_seq); (apply sc_cond_true; (exact ev_)); (apply sc_skip); (apply nm_then); (apply sc_block); apply sc_seq; apply sc_region; (apply so_ex; (apply ex_ent; (exact ev_); (exact mem_); (exact mem_); assumption; assumption); exact rfl); (apply so_ex; (apply ex_extract; (exact ev_); (exact nth_)); exact rfl); (apply so_ex; (apply ex_extract; (exact ev_); (exact nth_)); exact rfl); (apply so_alloc; assumption; exact rfl; intro _); (apply so_store; (exact ev_); (exact ev_); assumption; exact rfl; exact rfl; exact rfl; (focus (repeat (first | exact Turn.here | apply Turn.there))); (focus (repeat (first | exact SetSub.nil | apply SetSub.take | apply SetSub.drop)))); (apply so_ex; (apply ex_assign; (exact ev_)); exact rfl); apply so_nil; apply nm_then; apply sc_seq; apply sc_region; (apply so_ex; (apply ex_move; (exact ev_)); exact rfl); (apply so_ex; (apply ex_loadN; (exact ev_); assumption; (exact mem_); (exact sub_)); exact rfl); (apply so_ex; (apply ex_move; (exact ev_)); exact rfl); (apply so_callq; (exact ev_); (focus ((apply EvL.cons; (exact ev_)); (apply EvL.cons; (exact ev_)); exact EvL.nil)); (focus (repeat (first | exact App.nil | apply App.cons))); assumption; exact hgk; (exact sel_); exact rfl); apply so_nil; apply nm_then; (apply sc_cond_false; (exact ev_)); (apply sc_skip); (apply nm_block); (apply nm_then))
      refine ⟨_, by rw [hk]; exact hlt, es', seen', _, (by apply Ev.at; (exact ev_)), (by apply Ev.at; (exact ev_)), (by apply Ev.at; (exact ev_)), (by apply held; (exact sel_); (exact appb_)), ?_, hI', rfl⟩
      have he : (S.filter fun x => !(decide (x ∈ vis) && pr x)) = S.filter fun x => !(decide (x ∈ (⟨tx, ⟨kd, tb, pg, sl⟩⟩ : Lk) :: vis) && pr x) := by
        apply List.filter_congr
        intro x _
        by_cases hxk : x = ⟨tx, ⟨kd, tb, pg, sl⟩⟩
        · subst hxk; simp [hpk]
        · simp [hxk]
      rw [← he]; exact hM'
    | true =>
      rw [hpk] at hgk
      ((apply so_ex; (apply ex_extract; (exact ev_); (exact nth_)); exact rfl); apply so_nil; apply nm_then; (apply sc_seq); (apply sc_cond_true; (exact ev_)); (apply sc_skip); (apply nm_then); (apply sc_block); apply sc_seq; apply sc_region; (apply so_ex; (apply ex_ent; (exact ev_); (exact mem_); (exact mem_); assumption; assumption); exact rfl); (apply so_ex; (apply ex_extract; (exact ev_); (exact nth_)); exact rfl); (apply so_ex; (apply ex_extract; (exact ev_); (exact nth_)); exact rfl); (apply so_alloc; assumption; exact rfl; intro _); (apply so_store; (exact ev_); (exact ev_); assumption; exact rfl; exact rfl; exact rfl; (focus (repeat (first | exact Turn.here | apply Turn.there))); (focus (repeat (first | exact SetSub.nil | apply SetSub.take | apply SetSub.drop)))); (apply so_ex; (apply ex_assign; (exact ev_)); exact rfl); apply so_nil; apply nm_then; apply sc_seq; apply sc_region; (apply so_ex; (apply ex_move; (exact ev_)); exact rfl); (apply so_ex; (apply ex_loadN; (exact ev_); assumption; (exact mem_); (exact sub_)); exact rfl); (apply so_ex; (apply ex_move; (exact ev_)); exact rfl); (apply so_callq; (exact ev_); (focus ((apply EvL.cons; (exact ev_)); (apply EvL.cons; (exact ev_)); exact EvL.nil)); (focus (repeat (first | exact App.nil | apply App.cons))); assumption; exact hgk; (exact sel_); exact rfl); apply so_nil; apply nm_then; (apply sc_cond_true; (exact ev_)); (apply sc_region); (apply so_ex; (apply ex_move; (exact ev_)); exact rfl); (apply so_ex; (apply ex_loadN; (exact ev_); assumption; (exact mem_); (exact sub_)); exact rfl); (apply so_del; (exact ev_); (intro _ _; (focus (repeat (first | exact Turn.here | apply Turn.there)))); assumption; (exact ev_); (first | exact keyEq .. | exact rfl); assumption; assumption; intro _ _ _); (apply so_nil); (apply nm_block); (apply nm_then))
      rename_i es2 hM2 hs2
      refine ⟨_, by rw [hk]; exact hlt, es2, seen', _, (by apply Ev.at; (exact ev_)), (by apply Ev.at; (exact ev_)), (by apply Ev.at; (exact ev_)), (by apply held; (exact sel_); (exact appb_)), ?_, hI'.sub hs2, rfl⟩
      have he : ((S.filter fun x => !(decide (x ∈ vis) && pr x)).filter fun x => !decide (x = (⟨tx, ⟨kd, tb, pg, sl⟩⟩ : Lk))) = S.filter fun x => !(decide (x ∈ (⟨tx, ⟨kd, tb, pg, sl⟩⟩ : Lk) :: vis) && pr x) := by
        rw [List.filter_filter]
        apply List.filter_congr
        intro x _
        by_cases hxk : x = ⟨tx, ⟨kd, tb, pg, sl⟩⟩
        · subst hxk; simp [hpk]
        · simp [hxk]
      rw [delV_lv, he] at hM2; exact hM2
/-- a lock laid: the locks of tx that it covers go -/
def addT (S : List Lk) (tx : Int) (t : Tgt) : List Lk := (S.filter fun k => !(decide (k.tx = tx) && coversT t k.on)) ++ [⟨tx, t⟩]
theorem coversT_self (t : Tgt) : coversT t t = true := by simp [coversT]
theorem add_tri {p m : Nat} {most : Int} {es : Array MapEntry} {c : Nat} {S : List Lk} (hM : MapOf encLock (lv S) es c) (tx : Int) (t : Tgt) : Tri Try.prog 45 #[.pointer (some ⟨p, 0, none⟩), .int .i64 tx, t.val] (lBlk p m most es c) (fun _ L => LAt p most (addT S tx t) L) := by
  have f_mixed := mixed; have f_en63 := en63; have f_en64 := en64; have f_fo79_1 := fo79_1; have f_pl82_0 := pl82_0; have f_pl82_1 := pl82_1; have f_st82 := st82; have f_ty23 := ty23; have f_ty3 := ty3; have f_ty4 := ty4; have f_ty77 := ty77; have f_un_77 : Und Try.prog 77 _ := ⟨Try.underlying77⟩; have f_zero4 := zero4; have f_zero82 := zero82; have f_zv4 := zv4
  have f_kl := KL82
  refine tri_intro (args := [_, _, _]) Try.func45 rfl Try.ntmps45 rfl (rs := _) rfl rfl fun E R => ?_
  simp only [fr, lBlk, List.cons_append, List.nil_append]
  (apply sc_seq; apply sc_region; (apply so_box; (exact ev_); exact rfl; exact rfl; intro _); (apply so_box; (exact ev_); exact rfl; exact rfl; intro _); apply so_nil; apply nm_then; (apply sc_seq); apply sc_seq; apply sc_region; (apply so_ex; (apply ex_move; (exact ev_)); exact rfl); (apply so_ex; (apply ex_nilCheck; (exact ev_)); exact rfl); (apply so_ex; (apply ex_fieldAddr; (exact ev_); assumption); exact rfl); (apply so_ex; (apply ex_load1; (exact ev_); assumption; (exact mem_); (exact nth_)); exact rfl); (apply so_ex; (apply ex_eqm_f; (exact ev_); ((exact Ev.const)); assumption); exact rfl); apply so_nil; apply nm_then; (apply sc_cond_false; (exact ev_)); (apply sc_skip); (apply nm_then); apply sc_seq; apply sc_region; (apply so_ex; (apply ex_move; (exact ev_)); exact rfl); (apply so_ex; (apply ex_nilCheck; (exact ev_)); exact rfl); (apply so_ex; (apply ex_fieldAddr; (exact ev_); assumption); exact rfl); (apply so_ex; (apply ex_load1; (exact ev_); assumption; (exact mem_); (exact nth_)); exact rfl); (apply so_ex; (apply ex_makeFunc; ((focus ((apply EvL.cons; (exact ev_)); (apply EvL.cons; (exact ev_)); exact EvL.nil)))); exact rfl))
  rename_i b3 b4
  have hd := deleteFunc_tri (g := 64) (m := m) (cap := [.pointer (some ⟨b3, 0, none⟩), .pointer (some ⟨b4, 0, none⟩)]) hM f_en64 (fun k => add1_tri b3 b4 tx t k)
  (apply so_call; (exact Ev.func); (focus ((apply EvL.cons; (exact ev_)); (apply EvL.cons; (exact ev_)); exact EvL.nil)); (focus (repeat (first | exact App.nil | apply App.cons))); assumption; (exact hd); (exact sel_); exact rfl)
  rintro v L' ⟨es', rfl, hM'⟩
  simp only [List.cons_append, List.nil_append]
  have hput : putV (lv (S.filter fun k => !(decide (k.tx = tx) && coversT t k.on))) ⟨tx, ⟨t.kind, t.table, t.page, t.slot⟩⟩ (.bool true) = lv (addT S tx t) := by
    rw [putV_lv, if_neg]
    · rfl
    · intro h
      have := (List.mem_filter.1 h).2
      simp [coversT_self t] at this
  (apply so_nil; apply nm_then; (apply sc_any1m (id := 4) (s := 18); assumption; (exact ev_); (exact pick_); exact rfl; exact rfl; (apply sa_take (i := 0); kernel_rfl; exact rfl; kernel_rfl; kernel_rfl; exact rfl; exact rfl; (exact sel_); (apply qo_ex; (apply ex_move; (exact ev_))); apply sa_take (i := 1); kernel_rfl; exact rfl; kernel_rfl; kernel_rfl; exact rfl; exact rfl; (exact sel_); (apply qo_ex; (apply ex_nilCheck; (exact ev_))); apply sa_take (i := 2); kernel_rfl; exact rfl; kernel_rfl; kernel_rfl; exact rfl; exact rfl; (exact sel_); (apply qo_ex; (apply ex_fieldAddr; (exact ev_); assumption)); apply sa_take (i := 3); kernel_rfl; exact rfl; kernel_rfl; kernel_rfl; exact rfl; exact rfl; (exact sel_); (apply qo_ex; (apply ex_load1; (exact ev_); assumption; (exact mem_); (exact nth_))); apply sa_take (i := 4); kernel_rfl; exact rfl; kernel_rfl; kernel_rfl; exact rfl; exact rfl; (exact sel_); (apply qo_ex; (apply ex_load1; (exact ev_); assumption; (exact mem_); (exact nth_))); apply sa_take (i := 5); kernel_rfl; exact rfl; kernel_rfl; kernel_rfl; exact rfl; exact rfl; (exact sel_); (apply qo_ex; (apply ex_loadN; (exact ev_); assumption; (exact mem_); (exact sub_))); apply sa_take (i := 6); kernel_rfl; exact rfl; kernel_rfl; kernel_rfl; exact rfl; exact rfl; (exact sel_); (apply qo_ex; (apply ex_build; ((focus ((apply EvP.cons; (exact ev_)); (apply EvP.cons; (exact ev_)); exact EvP.nil))); assumption; ((focus (repeat (first | exact Bld.nil (by assumption) | (apply Bld.cons; assumption; exact rfl; exact rfl; (focus (repeat (first | exact SetSub.nil | apply SetSub.take | apply SetSub.drop)))))))))); apply sa_one (i := 7); exact rfl; kernel_rfl; exact rfl; (((apply so_mapUp; (exact ev_); (intro _ _; (focus (repeat (first | exact Turn.here | apply Turn.there)))); assumption; (exact ev_); (first | exact keyEq .. | exact rfl); (exact Ev.const); assumption; assumption; intro _ _ _))); apply sa_next; (exact sel_); (apply sa_done; kernel_rfl))); (apply ret_ok'; (focus (exact Res.nil)); (exact ⟨m, _, _, rfl, by rw [← hput]; assumption⟩); (exact sel_); (exact appb_)))
end Go.Proofs.Ytbpioemenmahaaa
