/- Locks: the reference: coarser, Read. Locks: the reference: Read. -/
import Derived.Test.YtbpioemenmahaaaQMc
set_option linter.unusedVariables false
set_option linter.unusedSimpArgs false
set_option linter.unnecessarySimpa false
namespace Go.Proofs.Ytbpioemenmahaaa
open Go.Sym

/-- the reference's promotion -/
inductive RCo (most : Int) : List Lk → List Lk → Bool → Prop
  | done {S} : ¬ ((S.length : Int) > most) → RCo most S S true
  | page {S g S' ok} : (S.length : Int) > most → Best toPage S g → RCo most (rlayT S g.tx g.on) S' ok → RCo most S S' ok
  | table {S g S' ok} : (S.length : Int) > most → (∀ x, cnt toPage S x < 2) → Best toTable S g → RCo most (rlayT S g.tx g.on) S' ok → RCo most S S' ok
  | fail {S} : (S.length : Int) > most → (∀ x, cnt toPage S x < 2) → (∀ x, cnt toTable S x < 2) → RCo most S S false
def FitsR (to : Lk → Option Lk) : Prop := ∀ k g, to k = some g → k.tx = g.tx ∧ refCoversT g.on k.on = true
theorem fitsR_page : FitsR toPage := by
  intro k g h
  unfold toPage at h
  split at h
  · simp only [Option.some.injEq] at h; subst h
    rename_i hk
    exact ⟨rfl, by simp [refCoversT, pageT, hk]⟩
  · cases h
theorem fitsR_table : FitsR toTable := by
  intro k g h
  unfold toTable at h
  simp only [Option.some.injEq] at h; subst h
  exact ⟨rfl, by simp [refCoversT, tableT]⟩
theorem rlay_lt {to : Lk → Option Lk} (hf : FitsR to) {S : List Lk} {g : Lk} (h : 2 ≤ cnt to S g) : (rlayT S g.tx g.on).length < S.length := by
  have h1 : cnt to S g ≤ (S.filter fun k => decide (k.tx = g.tx) && refCoversT g.on k.on).length := by
    unfold cnt
    rw [← List.countP_eq_length_filter, ← List.countP_eq_length_filter]
    refine List.countP_mono_left fun k _ hk => ?_
    have := hf k g (by simpa using hk)
    simp [this.1, this.2]
  have h2 := split_len (fun k : Lk => decide (k.tx = g.tx) && refCoversT g.on k.on) S
  unfold rlayT
  rw [List.length_append]
  simp only [List.length_singleton]
  omega
theorem refCoarser_tri {r cap : Nat} {most : Int} {o : Option Addr} {S : List Lk} {P0 : List Blk} (hP : LksIn o S P0) (hS : S.length ≤ 1000000) :
    Tri Try.prog 76 #[.pointer (some ⟨r, 0, none⟩)] ((r, Obj.cells [Value.int .i64 most, .slice o S.length cap].toArray 100) :: P0) (fun v L => ∃ S' ok, v = .bool ok ∧ RCo most S S' ok ∧ RLAt r most S' L) := by
  have f_mixed := mixed; have f_by102 := by102; have f_en90 := en90; have f_fo100_0 := fo100_0; have f_fo100_1 := fo100_1; have f_ty102 := ty102; have f_ty3 := ty3; have f_ty98 := ty98; have f_un_98 : Und Try.prog 98 _ := ⟨Try.underlying98⟩; have f_zero102 := zero102; have f_zv102 := zv102
  refine tri_intro (args := [_]) Try.func76 rfl Try.ntmps76 rfl (rs := _) rfl rfl fun E R => ?_
  simp only [fr, List.cons_append, List.nil_append]
  ((apply sc_seq); ((fail_if_success (apply sc_region (id := 1))); apply sc_region); (apply so_ex; (apply ex_assign; ((exact Ev.const))); exact rfl); apply so_nil; apply nm_then; (apply sc_seq); (apply sc_block))
  refine sc_loop (fun q f L => ∃ (S1 : List Lk) (o : Option Addr) (cap : Nat) (P1 : List Blk), q = S1.length ∧ S1.length ≤ 1000000 ∧ LksIn o S1 P1 ∧ (∀ S' ok, RCo most S1 S' ok → RCo most S S' ok) ∧ At f 0 (.pointer (some ⟨r, 0, none⟩)) ∧
      Held L ([(r, Obj.cells [Value.int .i64 most, .slice o S1.length cap].toArray 100)] ++ P1) R)
    _ ⟨S, o, cap, P0, rfl, hS, hP, fun _ _ h => h, (by apply Ev.at; (exact ev_)), (by apply held; (exact sel_); (exact appb_))⟩ ?_
  clear hP hS
  rintro q f L ⟨S1, o, cap, P1, hq, hS, hP, hco, a0, ⟨G, hG⟩⟩
  refine sc_perm hG ?_
  simp only [List.cons_append, List.nil_append]
  ((apply sc_seq); (apply sc_seq); (apply sc_quiet (id := 1); assumption; kernel_rfl); (apply sq_ex; (apply ex_move; (exact ev_)); exact rfl); (apply sq_ex; (apply ex_nilCheck; (exact ev_)); exact rfl); (apply sq_ex; (apply ex_fieldAddr; (exact ev_); assumption); exact rfl); (apply sq_ex; (apply ex_load1; (exact ev_); assumption; (exact mem_); (exact nth_)); exact rfl); (apply sq_ex; (apply ex_len_slice; (exact ev_); assumption); exact rfl); (apply sq_ex; (apply ex_move; (exact ev_)); exact rfl); (apply sq_ex; (apply ex_nilCheck; (exact ev_)); exact rfl); (apply sq_ex; (apply ex_fieldAddr; (exact ev_); assumption); exact rfl); (apply sq_ex; (apply ex_load1; (exact ev_); assumption; (exact mem_); (exact nth_)); exact rfl); (apply sq_split; (apply ex_gtr; (exact ev_); (exact ev_)); exact rfl; refine ⟨fun _ => ?_, fun _ => ?_⟩); (apply sq_nil); (apply nm_then); (apply sc_cond_true; (exact ev_)); (apply sc_skip); (apply nm_then); (apply sc_block); apply sc_seq; apply sc_region; (apply so_ex; (apply ex_move; (exact ev_)); exact rfl))
  · rename_i hgt
    have hgt' : (S1.length : Int) > most := by simpa using hgt
    (apply so_call; (exact Ev.func); (focus ((apply EvL.cons; (exact ev_)); (apply EvL.cons; (exact Ev.const)); exact EvL.nil)); (focus (repeat (first | exact App.nil | apply App.cons))); assumption; (exact coarsePage_tri (r := r) (cap := cap) (most := most) hP hS); (exact sel_); exact rfl)
    rintro v L' (⟨rfl, hno, rfl⟩ | ⟨rfl, g, hb, o2, cap2, P2, rfl, hP2⟩)
    · simp only [List.cons_append, List.nil_append]
      ((apply so_ex; (apply ex_assign; (exact ev_)); exact rfl); apply so_nil; apply nm_then; (apply sc_seq); apply sc_seq; apply sc_region; (apply so_ex; (apply ex_move; (exact ev_)); exact rfl); (apply so_ex; (apply ex_not; (exact ev_)); exact rfl); apply so_nil; apply nm_then; (apply sc_cond_true; (exact ev_)); (apply sc_region); (apply so_ex; (apply ex_move; (exact ev_)); exact rfl))
      (apply so_call; (exact Ev.func); (focus ((apply EvL.cons; (exact ev_)); (apply EvL.cons; (exact Ev.const)); exact EvL.nil)); (focus (repeat (first | exact App.nil | apply App.cons))); assumption; (exact coarseTable_tri (r := r) (cap := cap) (most := most) hP hS); (exact sel_); exact rfl)
      rintro v L' (⟨rfl, hno2, rfl⟩ | ⟨rfl, g, hb, o2, cap2, P2, rfl, hP2⟩)
      · simp only [List.cons_append, List.nil_append]
        ((apply so_ex; (apply ex_assign; (exact ev_)); exact rfl); apply so_nil; apply nm_then; apply sc_seq; apply sc_region; (apply so_ex; (apply ex_move; (exact ev_)); exact rfl); (apply so_ex; (apply ex_not; (exact ev_)); exact rfl); apply so_nil; apply nm_then; (apply sc_cond_true; (exact ev_)); apply sc_seq; apply sc_region; (apply so_ex; (apply ex_assign; ((exact Ev.const))); exact rfl); apply so_nil; apply nm_then; (apply sc_ret); (apply rt_block); (apply rt_then); (apply rt_block); (apply rt_then); (apply ret_ok; (focus ((apply Res.tmp; (exact ev_)); exact Res.nil)); (exact ⟨S1, false, rfl, hco _ _ (RCo.fail hgt' hno hno2), o, cap, P1, rfl, hP⟩); (exact sel_); (exact appb_)))
      · simp only [List.cons_append, List.nil_append]
        ((apply so_ex; (apply ex_assign; (exact ev_)); exact rfl); apply so_nil; apply nm_then; apply sc_seq; apply sc_region; (apply so_ex; (apply ex_move; (exact ev_)); exact rfl); (apply so_ex; (apply ex_not; (exact ev_)); exact rfl); apply so_nil; apply nm_then; (apply sc_cond_false; (exact ev_)); (apply sc_skip); (apply nm_block); (apply nm_then))
        have hlt := rlay_lt fitsR_table hb.1
        exact ⟨_, by rw [hq]; exact hlt, _, o2, cap2, P2, rfl, by omega, hP2, fun S' ok h => hco _ _ (RCo.table hgt' hno hb h), (by apply Ev.at; (exact ev_)), (by apply held; (exact sel_); (exact appb_))⟩
    · simp only [List.cons_append, List.nil_append]
      ((apply so_ex; (apply ex_assign; (exact ev_)); exact rfl); apply so_nil; apply nm_then; (apply sc_seq); apply sc_seq; apply sc_region; (apply so_ex; (apply ex_move; (exact ev_)); exact rfl); (apply so_ex; (apply ex_not; (exact ev_)); exact rfl); apply so_nil; apply nm_then; (apply sc_cond_false; (exact ev_)); (apply sc_skip); (apply nm_then); apply sc_seq; apply sc_region; (apply so_ex; (apply ex_move; (exact ev_)); exact rfl); (apply so_ex; (apply ex_not; (exact ev_)); exact rfl); apply so_nil; apply nm_then; (apply sc_cond_false; (exact ev_)); (apply sc_skip); (apply nm_block); (apply nm_then))
      have hlt := rlay_lt fitsR_page hb.1
      exact ⟨_, by rw [hq]; exact hlt, _, o2, cap2, P2, rfl, by omega, hP2, fun S' ok h => hco _ _ (RCo.page hgt' hb h), (by apply Ev.at; (exact ev_)), (by apply held; (exact sel_); (exact appb_))⟩
  · rename_i hgt
    have hgt' : ¬ (S1.length : Int) > most := by simpa using hgt
    ((apply sq_nil); (apply nm_then); (apply sc_cond_false; (exact ev_)); (apply sc_exit); (apply et_then); (apply et_then); (apply et_hit); (apply nm_then); apply sc_seq; apply sc_region; (apply so_ex; (apply ex_assign; ((exact Ev.const))); exact rfl); apply so_nil; apply nm_then; (apply sc_ret); (apply ret_ok; (focus ((apply Res.tmp; (exact ev_)); exact Res.nil)); (exact ⟨S1, true, rfl, hco _ _ (RCo.done hgt'), o, cap, P1, rfl, hP⟩); (exact sel_); (exact appb_)))
end Go.Proofs.Ytbpioemenmahaaa
namespace Go.Proofs.Ytbpioemenmahaaa
open Go.Sym

section
variable {P : Program} {E : Env} {f : Nat → Value} {L : List Blk} {ty : TypeId} {pos : String} {after : Array Edge} {d : Nat} {x y : Operand} {t et : TypeId} {ag : Bool} {s : Nat}
/-- nothing is appended -/
theorem ex_appZ {p p' : Option Addr} {len cap c2 : Nat} (hx : Ev f x (.slice p len cap)) (hy : Ev f y (.slice p' 0 c2)) (hl : len ≤ cap) (ht : Und P t (.slice et)) (hT : tyOf P et = some (ag, s)) :
    Ex P E f L ⟨some d, .call ⟨.builtin .append, #[x, y], #[t, t]⟩, ty, pos, after, none⟩ (.slice p len cap) := .mk fun w _ => by
  have hu := ht.eq
  cases p with
  | none =>
    cases p' <;> simp [execOp, resolve, hx.eq, hy.eq, invoke, builtin, Builtin.append_, run_underlying hu, run_sizeT hT, Builtin.lenOf, Builtin.firstCells, loadCells, loadCellsFrom, hl]
  | some a =>
    cases p' <;> simp [execOp, resolve, hx.eq, hy.eq, invoke, builtin, Builtin.append_, run_underlying hu, run_sizeT hT, Builtin.lenOf, Builtin.firstCells, storeCells, loadCells, loadCellsFrom, hl]
end
/-- what the reference's Read does -/
def RReadR (most : Int) (S : List Lk) (tx : Int) (t : Tgt) (r : Int) (S' : List Lk) : Prop :=
  (¬ (1 ≤ tx ∧ mayT t = true) ∧ r = 1 ∧ S' = S) ∨ ((1 ≤ tx ∧ mayT t = true) ∧ rhasT S tx t = true ∧ r = 0 ∧ S' = S) ∨
  ((1 ≤ tx ∧ mayT t = true) ∧ rhasT S tx t = false ∧ ((RCo most (rlayT S tx t) S' true ∧ r = 0) ∨ (∃ S2, RCo most (rlayT S tx t) S2 false ∧ r = 45 ∧ S' = S)))
theorem ones_lcells (S : List Lk) : (lcells S).all (·.oneCell') = true := by
  unfold lcells
  rw [List.all_flatMap]
  rw [List.all_eq_true]
  intro k _
  rfl
theorem refRead_tri {r cap : Nat} {most : Int} {o : Option Addr} {S : List Lk} {P0 : List Blk} (hP : LksIn o S P0) (hS : S.length < 1000000) (tx a b u e : Int) :
    Tri Try.prog 60 #[.pointer (some ⟨r, 0, none⟩), .int .i64 tx, .agg #[.int .i64 a, .int .i64 b, .int .i64 u, .int .i64 e]] ((r, Obj.cells [Value.int .i64 most, .slice o S.length cap].toArray 100) :: P0) (fun v L => ∃ rr S', v = .int .i64 rr ∧ RReadR most S tx ⟨a, b, u, e⟩ rr S' ∧ RLAt r most S' L) := by
  have f_mixed := mixed; have f_by102 := by102; have f_en16 := en16; have f_en38 := en38; have f_en75 := en75; have f_en76 := en76; have f_fo100_1 := fo100_1; have f_ty102 := ty102; have f_ty23 := ty23; have f_ty98 := ty98; have f_un_98 : Und Try.prog 98 _ := ⟨Try.underlying98⟩; have f_zero102 := zero102; have f_zv102 := zv102
  refine tri_intro (args := [_, _, _]) Try.func60 rfl Try.ntmps60 rfl (rs := _) rfl rfl fun E R => ?_
  simp only [fr, List.cons_append, List.nil_append]
  have hmt := refMay_tri a b u e
  have hht := refHas_tri (r := r) (cap := cap) (most := most) hP (by omega) tx a b u e
  have hrl : (rlayT S tx ⟨a, b, u, e⟩).length ≤ 1000000 := by
    unfold rlayT
    have := List.length_filter_le (fun k : Lk => !(decide (k.tx = tx) && refCoversT ⟨a, b, u, e⟩ k.on)) S
    rw [List.length_append]
    simp only [List.length_singleton]
    omega
  by_cases h1 : 1 ≤ tx
  · cases hm : mayT ⟨a, b, u, e⟩ with
    | false =>
      rw [hm] at hmt
      (apply sc_seq; apply sc_region; (apply so_box; (exact ev_); exact rfl; exact rfl; intro _); (apply so_ex; (apply ex_assign; ((exact Ev.const))); exact rfl); apply so_nil; apply nm_then; (apply sc_seq); apply sc_seq; apply sc_region; (apply so_ex; (apply ex_move; (exact ev_)); exact rfl); (apply so_ex; (apply ex_lss_f; (exact ev_); ((exact Ev.const)); (first | assumption | omega)); exact rfl); (apply so_ex; (apply ex_move; (exact ev_)); exact rfl); (apply so_want; exact rfl; (exact ev_); exact rfl; exact rfl); (apply so_ex; (apply ex_loadN; (exact ev_); assumption; (exact mem_); (exact sub_)); exact rfl); (apply so_want; exact rfl; (exact ev_); exact rfl; exact rfl); (apply so_callq; (exact Ev.func); (focus ((apply EvL.cons; (exact ev_)); exact EvL.nil)); (focus (repeat (first | exact App.nil | apply App.cons))); assumption; exact hmt; (exact sel_); exact rfl); (apply so_want; exact rfl; (exact ev_); exact rfl; exact rfl); (apply so_ex; (apply ex_not; (exact ev_)); exact rfl); (apply so_ex; (apply ex_pick_f; (exact ev_); (exact ev_)); exact rfl); apply so_nil; apply nm_then; (apply sc_cond_true; (exact ev_)); apply sc_seq; apply sc_region; (apply so_ex; (apply ex_assign; ((exact Ev.const))); exact rfl); apply so_nil; apply nm_then; (apply sc_ret); (apply rt_then); (apply ret_ok; (focus ((apply Res.tmp; (exact ev_)); exact Res.nil)); (exact ⟨1, S, rfl, .inl ⟨fun h => by rw [hm] at h; exact absurd h.2 (by simp), rfl, rfl⟩, o, cap, P0, rfl, hP⟩); (exact sel_); (exact appb_)))
    | true =>
      rw [hm] at hmt
      cases hh : rhasT S tx ⟨a, b, u, e⟩ with
      | true =>
        rw [hh] at hht
        (apply sc_seq; apply sc_region; (apply so_box; (exact ev_); exact rfl; exact rfl; intro _); (apply so_ex; (apply ex_assign; ((exact Ev.const))); exact rfl); apply so_nil; apply nm_then; (apply sc_seq); apply sc_seq; apply sc_region; (apply so_ex; (apply ex_move; (exact ev_)); exact rfl); (apply so_ex; (apply ex_lss_f; (exact ev_); ((exact Ev.const)); (first | assumption | omega)); exact rfl); (apply so_ex; (apply ex_move; (exact ev_)); exact rfl); (apply so_want; exact rfl; (exact ev_); exact rfl; exact rfl); (apply so_ex; (apply ex_loadN; (exact ev_); assumption; (exact mem_); (exact sub_)); exact rfl); (apply so_want; exact rfl; (exact ev_); exact rfl; exact rfl); (apply so_callq; (exact Ev.func); (focus ((apply EvL.cons; (exact ev_)); exact EvL.nil)); (focus (repeat (first | exact App.nil | apply App.cons))); assumption; exact hmt; (exact sel_); exact rfl); (apply so_want; exact rfl; (exact ev_); exact rfl; exact rfl); (apply so_ex; (apply ex_not; (exact ev_)); exact rfl); (apply so_ex; (apply ex_pick_f; (exact ev_); (exact ev_)); exact rfl); apply so_nil; apply nm_then; (apply sc_cond_false; (exact ev_)); (apply sc_skip); (apply nm_then); apply sc_seq; apply sc_region; (apply so_ex; (apply ex_move; (exact ev_)); exact rfl); (apply so_ex; (apply ex_move; (exact ev_)); exact rfl); (apply so_ex; (apply ex_loadN; (exact ev_); assumption; (exact mem_); (exact sub_)); exact rfl); (apply so_callq; (exact Ev.func); (focus ((apply EvL.cons; (exact ev_)); (apply EvL.cons; (exact ev_)); (apply EvL.cons; (exact ev_)); exact EvL.nil)); (focus (repeat (first | exact App.nil | apply App.cons))); assumption; exact hht; (exact sel_); exact rfl); (apply so_ex; (apply ex_assign; (exact ev_)); exact rfl); apply so_nil; apply nm_then; (apply sc_seq); apply sc_seq; apply sc_region; (apply so_ex; (apply ex_move; (exact ev_)); exact rfl); apply so_nil; apply nm_then; (apply sc_cond_true; (exact ev_)); apply sc_seq; apply sc_region; (apply so_ex; (apply ex_assign; ((exact Ev.const))); exact rfl); apply so_nil; apply nm_then; (apply sc_ret); (apply rt_then); (apply ret_ok; (focus ((apply Res.tmp; (exact ev_)); exact Res.nil)); (exact ⟨0, S, rfl, .inr (.inl ⟨⟨h1, hm⟩, hh, rfl, rfl⟩), o, cap, P0, rfl, hP⟩); (exact sel_); (exact appb_)))
      | false =>
        rw [hh] at hht
        by_cases hz : S.length = 0
        · have hS0 : S = [] := List.eq_nil_of_length_eq_zero hz
          have hz2 : Value.slice o S.length cap = .slice o 0 cap := by rw [hz]
          ((apply sc_seq); ((fail_if_success (apply sc_region (id := 6))); apply sc_region); (apply so_box; (exact ev_); exact rfl; exact rfl; intro _); (apply so_ex; (apply ex_assign; ((exact Ev.const))); exact rfl); apply so_nil; apply nm_then; (apply sc_seq); (apply sc_seq); ((fail_if_success (apply sc_region (id := 6))); apply sc_region); (apply so_ex; (apply ex_move; (exact ev_)); exact rfl); (apply so_ex; (apply ex_lss_f; (exact ev_); ((exact Ev.const)); (first | assumption | omega)); exact rfl); (apply so_ex; (apply ex_move; (exact ev_)); exact rfl); (apply so_want; exact rfl; (exact ev_); exact rfl; exact rfl); (apply so_ex; (apply ex_loadN; (exact ev_); assumption; (exact mem_); (exact sub_)); exact rfl); (apply so_want; exact rfl; (exact ev_); exact rfl; exact rfl); (apply so_callq; (exact Ev.func); (focus ((apply EvL.cons; (exact ev_)); exact EvL.nil)); (focus (repeat (first | exact App.nil | apply App.cons))); assumption; exact hmt; (exact sel_); exact rfl); (apply so_want; exact rfl; (exact ev_); exact rfl; exact rfl); (apply so_ex; (apply ex_not; (exact ev_)); exact rfl); (apply so_ex; (apply ex_pick_f; (exact ev_); (exact ev_)); exact rfl); apply so_nil; apply nm_then; (apply sc_cond_false; (exact ev_)); (apply sc_skip); (apply nm_then); (apply sc_seq); ((fail_if_success (apply sc_region (id := 6))); apply sc_region); (apply so_ex; (apply ex_move; (exact ev_)); exact rfl); (apply so_ex; (apply ex_move; (exact ev_)); exact rfl); (apply so_ex; (apply ex_loadN; (exact ev_); assumption; (exact mem_); (exact sub_)); exact rfl); (apply so_callq; (exact Ev.func); (focus ((apply EvL.cons; (exact ev_)); (apply EvL.cons; (exact ev_)); (apply EvL.cons; (exact ev_)); exact EvL.nil)); (focus (repeat (first | exact App.nil | apply App.cons))); assumption; exact hht; (exact sel_); exact rfl); (apply so_ex; (apply ex_assign; (exact ev_)); exact rfl); apply so_nil; apply nm_then; (apply sc_seq); (apply sc_seq); ((fail_if_success (apply sc_region (id := 6))); apply sc_region); (apply so_ex; (apply ex_move; (exact ev_)); exact rfl); apply so_nil; apply nm_then; (apply sc_cond_false; (exact ev_)); (apply sc_skip); (apply nm_then); (apply sc_seq))
          ((apply sc_region); (apply so_buildS; (focus (exact EvP.nil)); assumption; assumption; assumption; (focus (repeat (first | exact SeqP.nil | (apply SeqP.cons; exact rfl; exact rfl) | exact App.nil | apply App.cons))); exact rfl; exact rfl; exact rfl; intro _); (apply so_ex; (apply ex_move; (exact ev_)); exact rfl); (apply so_ex; (apply ex_nilCheck; (exact ev_)); exact rfl); (apply so_ex; (apply ex_fieldAddr; (exact ev_); assumption); exact rfl); (apply so_ex; (apply ex_load1; (exact ev_); assumption; (exact mem_); (exact nth_)); exact rfl); (apply so_ex; (apply ex_appZ; (exact ev_); (rw [← hz2]; (exact ev_)); exact Nat.le_refl _; assumption; assumption); exact rfl); (apply so_ex; (apply ex_assign; (exact ev_)); exact rfl); apply so_nil; apply nm_then; apply sc_seq; apply sc_region; (apply so_ex; (apply ex_move; (exact ev_)); exact rfl); (apply so_ex; (apply ex_move; (exact ev_)); exact rfl); (apply so_ex; (apply ex_loadN; (exact ev_); assumption; (exact mem_); (exact sub_)); exact rfl))
          rename_i b5 b22
          (apply so_call; (exact Ev.func); (focus ((apply EvL.cons; (exact ev_)); (apply EvL.cons; (exact ev_)); (apply EvL.cons; (exact ev_)); exact EvL.nil)); (focus (repeat (first | exact App.nil | apply App.cons))); assumption; (exact lay_tri (r := r) (cap := cap) (most := most) hP (by omega) tx a b u e); (exact sel_); exact rfl)
          rintro v L' ⟨rfl, o2, cap2, P2, rfl, hP2⟩
          simp only [List.cons_append, List.nil_append]
          (apply so_nil; apply nm_then; apply sc_seq; apply sc_region; (apply so_ex; (apply ex_move; (exact ev_)); exact rfl))
          (apply so_call; (exact Ev.func); (focus ((apply EvL.cons; (exact ev_)); exact EvL.nil)); (focus (repeat (first | exact App.nil | apply App.cons))); assumption; (exact refCoarser_tri (r := r) (cap := cap2) (most := most) hP2 hrl); (exact sel_); exact rfl)
          rintro v L' ⟨S', ok, rfl, hco, o3, cap3, P3, rfl, hP3⟩
          simp only [List.cons_append, List.nil_append]
          cases ok with
          | true => ((apply so_ex; (apply ex_assign; (exact ev_)); exact rfl); apply so_nil; apply nm_then; (apply sc_seq); apply sc_seq; apply sc_region; (apply so_ex; (apply ex_move; (exact ev_)); exact rfl); (apply so_ex; (apply ex_not; (exact ev_)); exact rfl); apply so_nil; apply nm_then; (apply sc_cond_false; (exact ev_)); (apply sc_skip); (apply nm_then); apply sc_seq; apply sc_region; (apply so_ex; (apply ex_assign; ((exact Ev.const))); exact rfl); apply so_nil; apply nm_then; (apply sc_ret); (apply ret_ok; (focus ((apply Res.tmp; (exact ev_)); exact Res.nil)); (exact ⟨0, S', rfl, .inr (.inr ⟨⟨h1, hm⟩, hh, .inl ⟨hco, rfl⟩⟩), o3, cap3, P3, rfl, hP3⟩); (exact sel_); (exact appb_)))
          | false => ((apply so_ex; (apply ex_assign; (exact ev_)); exact rfl); apply so_nil; apply nm_then; (apply sc_seq); apply sc_seq; apply sc_region; (apply so_ex; (apply ex_move; (exact ev_)); exact rfl); (apply so_ex; (apply ex_not; (exact ev_)); exact rfl); apply so_nil; apply nm_then; (apply sc_cond_true; (exact ev_)); apply sc_seq; apply sc_region; (apply so_ex; (apply ex_move; (exact ev_)); exact rfl); (apply so_ex; (apply ex_move; (exact ev_)); exact rfl); (apply so_ex; (apply ex_nilCheck; (exact ev_)); exact rfl); (apply so_ex; (apply ex_fieldAddr; (exact ev_); assumption); exact rfl); (apply so_store; (exact ev_); (exact ev_); assumption; exact rfl; exact rfl; exact rfl; (focus (repeat (first | exact Turn.here | apply Turn.there | apply Turn.pre))); (focus (repeat (first | exact SetSub.nil | apply SetSub.take | apply SetSub.drop)))); apply so_nil; apply nm_then; apply sc_seq; apply sc_region; (apply so_ex; (apply ex_assign; ((exact Ev.const))); exact rfl); apply so_nil; apply nm_then; (apply sc_ret); (apply rt_then); (apply ret_ok; (focus ((apply Res.tmp; (exact ev_)); exact Res.nil)); (exact ⟨45, S, rfl, .inr (.inr ⟨⟨h1, hm⟩, hh, .inr ⟨S', hco, rfl, rfl⟩⟩), some ⟨b22, 0, none⟩, 0, P3, by rw [hz], fun h => absurd h (by omega)⟩); (exact sel_); (exact appb_)))
        · obtain ⟨g, junk, ho, hgm⟩ := hP (by omega)
          subst ho
          have hll := lcells_len S
          have hyc : ∀ j, j < (lcells S).length → (lcells S ++ junk)[0 + j]? = (lcells S)[j]? := fun j hj => by
            rw [Nat.zero_add, List.getElem?_append_left hj]
          have hon := ones_lcells S
          ((apply sc_seq); ((fail_if_success (apply sc_region (id := 6))); apply sc_region); (apply so_box; (exact ev_); exact rfl; exact rfl; intro _); (apply so_ex; (apply ex_assign; ((exact Ev.const))); exact rfl); apply so_nil; apply nm_then; (apply sc_seq); (apply sc_seq); ((fail_if_success (apply sc_region (id := 6))); apply sc_region); (apply so_ex; (apply ex_move; (exact ev_)); exact rfl); (apply so_ex; (apply ex_lss_f; (exact ev_); ((exact Ev.const)); (first | assumption | omega)); exact rfl); (apply so_ex; (apply ex_move; (exact ev_)); exact rfl); (apply so_want; exact rfl; (exact ev_); exact rfl; exact rfl); (apply so_ex; (apply ex_loadN; (exact ev_); assumption; (exact mem_); (exact sub_)); exact rfl); (apply so_want; exact rfl; (exact ev_); exact rfl; exact rfl); (apply so_callq; (exact Ev.func); (focus ((apply EvL.cons; (exact ev_)); exact EvL.nil)); (focus (repeat (first | exact App.nil | apply App.cons))); assumption; exact hmt; (exact sel_); exact rfl); (apply so_want; exact rfl; (exact ev_); exact rfl; exact rfl); (apply so_ex; (apply ex_not; (exact ev_)); exact rfl); (apply so_ex; (apply ex_pick_f; (exact ev_); (exact ev_)); exact rfl); apply so_nil; apply nm_then; (apply sc_cond_false; (exact ev_)); (apply sc_skip); (apply nm_then); (apply sc_seq); ((fail_if_success (apply sc_region (id := 6))); apply sc_region); (apply so_ex; (apply ex_move; (exact ev_)); exact rfl); (apply so_ex; (apply ex_move; (exact ev_)); exact rfl); (apply so_ex; (apply ex_loadN; (exact ev_); assumption; (exact mem_); (exact sub_)); exact rfl); (apply so_callq; (exact Ev.func); (focus ((apply EvL.cons; (exact ev_)); (apply EvL.cons; (exact ev_)); (apply EvL.cons; (exact ev_)); exact EvL.nil)); (focus (repeat (first | exact App.nil | apply App.cons))); assumption; exact hht; (exact sel_); exact rfl); (apply so_ex; (apply ex_assign; (exact ev_)); exact rfl); apply so_nil; apply nm_then; (apply sc_seq); (apply sc_seq); ((fail_if_success (apply sc_region (id := 6))); apply sc_region); (apply so_ex; (apply ex_move; (exact ev_)); exact rfl); apply so_nil; apply nm_then; (apply sc_cond_false; (exact ev_)); (apply sc_skip); (apply nm_then); (apply sc_seq))
          ((apply sc_region); (apply so_buildS; (focus (exact EvP.nil)); assumption; assumption; assumption; (focus (repeat (first | exact SeqP.nil | (apply SeqP.cons; exact rfl; exact rfl) | exact App.nil | apply App.cons))); exact rfl; exact rfl; exact rfl; intro _); (apply so_ex; (apply ex_move; (exact ev_)); exact rfl); (apply so_ex; (apply ex_nilCheck; (exact ev_)); exact rfl); (apply so_ex; (apply ex_fieldAddr; (exact ev_); assumption); exact rfl); (apply so_ex; (apply ex_load1; (exact ev_); assumption; (exact mem_); (exact nth_)); exact rfl))
          rename_i b5 b22
          apply so_append (s := 5) (xs := []) (ys := lcells S) (H := [(b22, Obj.cells ([] : List Value).toArray 102)]) (p := some ⟨b22, 0, none⟩) (len := 0) (cap := 0) (o2 := 0) (m := S.length)
          · (exact ev_)
          · (exact ev_)
          · exact Row.row (xs := []) (junk := []) rfl rfl
          · (exact sel_)
          · (repeat (first | exact List.mem_append_left _ hgm | apply List.Mem.tail))
          · exact hll
          · exact hyc
          · assumption
          · assumption
          · assumption
          · exact rfl
          · assumption
          · omega
          · omega
          · exact rfl
          · exact hon
          · exact rfl
          intro v' H' hrow hnil
          rw [List.nil_append] at hrow hnil
          generalize hqs : lcells S = qs at hrow hnil
          cases hrow with
          | nil => exact absurd (hnil rfl) (fun h => by rw [hqs] at hll; rw [h] at hll; simp at hll; omega)
          | row h1' h2' =>
            rename_i b8 len8 cap8 junk8
            subst hqs
            obtain rfl : len8 = S.length := by omega
            simp only [List.cons_append, List.nil_append]
            ((apply so_ex; (apply ex_assign; (exact ev_)); exact rfl); apply so_nil; apply nm_then; apply sc_seq; apply sc_region; (apply so_ex; (apply ex_move; (exact ev_)); exact rfl); (apply so_ex; (apply ex_move; (exact ev_)); exact rfl); (apply so_ex; (apply ex_loadN; (exact ev_); assumption; (exact mem_); (exact sub_)); exact rfl))
            (apply so_call; (exact Ev.func); (focus ((apply EvL.cons; (exact ev_)); (apply EvL.cons; (exact ev_)); (apply EvL.cons; (exact ev_)); exact EvL.nil)); (focus (repeat (first | exact App.nil | apply App.cons))); assumption; (exact lay_tri (r := r) (cap := cap) (most := most) hP (by omega) tx a b u e); (exact sel_); exact rfl)
            rintro v L' ⟨rfl, o2, cap2, P2, rfl, hP2⟩
            simp only [List.cons_append, List.nil_append]
            (apply so_nil; apply nm_then; apply sc_seq; apply sc_region; (apply so_ex; (apply ex_move; (exact ev_)); exact rfl))
            (apply so_call; (exact Ev.func); (focus ((apply EvL.cons; (exact ev_)); exact EvL.nil)); (focus (repeat (first | exact App.nil | apply App.cons))); assumption; (exact refCoarser_tri (r := r) (cap := cap2) (most := most) hP2 hrl); (exact sel_); exact rfl)
            rintro v L' ⟨S', ok, rfl, hco, o3, cap3, P3, rfl, hP3⟩
            simp only [List.cons_append, List.nil_append]
            refine so_perm (List.perm_middle (a := (b8, Obj.cells (lcells S ++ junk8).toArray 102)) (l₁ := (r, Obj.cells [Value.int .i64 most, .slice o3 S'.length cap3].toArray 100) :: P3)) ?_
            simp only [List.cons_append]
            cases ok with
            | true => ((apply so_ex; (apply ex_assign; (exact ev_)); exact rfl); apply so_nil; apply nm_then; (apply sc_seq); apply sc_seq; apply sc_region; (apply so_ex; (apply ex_move; (exact ev_)); exact rfl); (apply so_ex; (apply ex_not; (exact ev_)); exact rfl); apply so_nil; apply nm_then; (apply sc_cond_false; (exact ev_)); (apply sc_skip); (apply nm_then); apply sc_seq; apply sc_region; (apply so_ex; (apply ex_assign; ((exact Ev.const))); exact rfl); apply so_nil; apply nm_then; (apply sc_ret); (apply ret_ok; (focus ((apply Res.tmp; (exact ev_)); exact Res.nil)); (exact ⟨0, S', rfl, .inr (.inr ⟨⟨h1, hm⟩, hh, .inl ⟨hco, rfl⟩⟩), o3, cap3, P3, rfl, hP3⟩); (exact sel_); (exact appb_)))
            | false => ((apply so_ex; (apply ex_assign; (exact ev_)); exact rfl); apply so_nil; apply nm_then; (apply sc_seq); apply sc_seq; apply sc_region; (apply so_ex; (apply ex_move; (exact ev_)); exact rfl); (apply so_ex; (apply ex_not; (exact ev_)); exact rfl); apply so_nil; apply nm_then; (apply sc_cond_true; (exact ev_)); apply sc_seq; apply sc_region; (apply so_ex; (apply ex_move; (exact ev_)); exact rfl); (apply so_ex; (apply ex_move; (exact ev_)); exact rfl); (apply so_ex; (apply ex_nilCheck; (exact ev_)); exact rfl); (apply so_ex; (apply ex_fieldAddr; (exact ev_); assumption); exact rfl); (apply so_store; (exact ev_); (exact ev_); assumption; exact rfl; exact rfl; exact rfl; (focus (repeat (first | exact Turn.here | apply Turn.there | apply Turn.pre))); (focus (repeat (first | exact SetSub.nil | apply SetSub.take | apply SetSub.drop)))); apply so_nil; apply nm_then; apply sc_seq; apply sc_region; (apply so_ex; (apply ex_assign; ((exact Ev.const))); exact rfl); apply so_nil; apply nm_then; (apply sc_ret); (apply rt_then); (apply ret_ok; (focus ((apply Res.tmp; (exact ev_)); exact Res.nil)); (exact ⟨45, S, rfl, .inr (.inr ⟨⟨h1, hm⟩, hh, .inr ⟨S', hco, rfl, rfl⟩⟩), some ⟨b8, 0, none⟩, cap8, (b8, Obj.cells (lcells S ++ junk8).toArray 102) :: P3, rfl, fun _ => ⟨b8, junk8, rfl, List.mem_cons_self ..⟩⟩); (exact sel_); (exact appb_)))
  · (apply sc_seq; apply sc_region; (apply so_box; (exact ev_); exact rfl; exact rfl; intro _); (apply so_ex; (apply ex_assign; ((exact Ev.const))); exact rfl); apply so_nil; apply nm_then; (apply sc_seq); apply sc_seq; apply sc_region; (apply so_ex; (apply ex_move; (exact ev_)); exact rfl); (apply so_ex; (apply ex_lss_t; (exact ev_); ((exact Ev.const)); (first | assumption | omega)); exact rfl); (apply so_ex; (apply ex_move; (exact ev_)); exact rfl); (apply so_skip; exact rfl; (exact ev_); exact rfl; exact rfl; exact rfl); (apply so_skip; exact rfl; (exact ev_); exact rfl; exact rfl; exact rfl); (apply so_skip; exact rfl; (exact ev_); exact rfl; exact rfl; exact rfl); (apply so_ex; (apply ex_pick_t; (exact ev_); ((exact Ev.const))); exact rfl); apply so_nil; apply nm_then; (apply sc_cond_true; (exact ev_)); apply sc_seq; apply sc_region; (apply so_ex; (apply ex_assign; ((exact Ev.const))); exact rfl); apply so_nil; apply nm_then; (apply sc_ret); (apply rt_then); (apply ret_ok; (focus ((apply Res.tmp; (exact ev_)); exact Res.nil)); (exact ⟨1, S, rfl, .inl ⟨fun h => h1 h.1, rfl, rfl⟩, o, cap, P0, rfl, hP⟩); (exact sel_); (exact appb_)))
end Go.Proofs.Ytbpioemenmahaaa
