/- Locks: Read. Locks: the examples of the chapter, in plain words. Locks: what is held stays held when locks are laid and promoted; in plain words. Locks: reads while there is room: plain words; the order of different transactions does not matter. Locks: Split and Merge, in plain words. -/
import Derived.Test.YtbpioemenmahaaaQD
set_option linter.unusedVariables false
set_option linter.unusedSimpArgs false
set_option linter.unnecessarySimpa false
namespace Go.Proofs.Ytbpioemenmahaaa
open Go.Sym

/-- what Read does -/
def ReadR (most : Int) (S : List Lk) (tx : Int) (t : Tgt) (r : Int) (S' : List Lk) : Prop :=
  (¬ (1 ≤ tx ∧ mayT t = true) ∧ r = 1 ∧ S' = S) ∨ ((1 ≤ tx ∧ mayT t = true) ∧ hasT S tx t = true ∧ r = 0 ∧ S' = S) ∨
  ((1 ≤ tx ∧ mayT t = true) ∧ hasT S tx t = false ∧ ((Co most (addT S tx t) S' true ∧ r = 0) ∨ (∃ S2, Co most (addT S tx t) S2 false ∧ r = 45 ∧ S' = S)))
theorem addT_len (S : List Lk) (tx : Int) (t : Tgt) : (addT S tx t).length ≤ S.length + 1 := by
  unfold addT
  have := List.length_filter_le (fun k : Lk => !(decide (k.tx = tx) && coversT t k.on)) S
  simp only [List.length_append, List.length_singleton]; omega
theorem read_tri {p m : Nat} {most : Int} {es : Array MapEntry} {c : Nat} {S : List Lk} (hM : MapOf encLock (lv S) es c) (hS : S.length < 1000000) (tx a b u e : Int) :
    Tri Try.prog 15 #[.pointer (some ⟨p, 0, none⟩), .int .i64 tx, .agg #[.int .i64 a, .int .i64 b, .int .i64 u, .int .i64 e]] (lBlk p m most es c) (fun v L => ∃ r S', v = .int .i64 r ∧ ReadR most S tx ⟨a, b, u, e⟩ r S' ∧ LAt p most S' L) := by
  have f_mixed := mixed; have f_en19 := en19; have f_en43 := en43; have f_en44 := en44; have f_en45 := en45; have f_en46 := en46; have f_fo79_1 := fo79_1; have f_ty23 := ty23; have f_ty77 := ty77; have f_un_30 : Und Try.prog 30 _ := ⟨Try.underlying30⟩
  refine tri_intro (args := [_, _, _]) Try.func15 rfl Try.ntmps15 rfl (rs := _) rfl rfl fun E R => ?_
  simp only [fr, lBlk, List.cons_append, List.nil_append]
  have hmt := may_tri a b u e
  have hht := has_tri (p := p) (m := m) (most := most) hM tx a b u e
  by_cases h1 : 1 ≤ tx
  · cases hm : mayT ⟨a, b, u, e⟩ with
    | false =>
      rw [hm] at hmt
      (apply sc_seq; apply sc_region; (apply so_box; (exact ev_); exact rfl; exact rfl; intro _); (apply so_ex; (apply ex_assign; ((exact Ev.const))); exact rfl); apply so_nil; apply nm_then; (apply sc_seq); apply sc_seq; apply sc_region; (apply so_ex; (apply ex_move; (exact ev_)); exact rfl); (apply so_ex; (apply ex_eqp_f; (exact ev_); ((exact Ev.const)); assumption); exact rfl); (apply so_ex; (apply ex_move; (exact ev_)); exact rfl); (apply so_want; exact rfl; (exact ev_); exact rfl; exact rfl); (apply so_ex; (apply ex_move; (exact ev_)); exact rfl); (apply so_want; exact rfl; (exact ev_); exact rfl; exact rfl); (apply so_ex; (apply ex_lss_f; (exact ev_); ((exact Ev.const)); (first | assumption | omega)); exact rfl); (apply so_ex; (apply ex_pick_f; (exact ev_); (exact ev_)); exact rfl); (apply so_ex; (apply ex_move; (exact ev_)); exact rfl); (apply so_want; exact rfl; (exact ev_); exact rfl; exact rfl); (apply so_ex; (apply ex_loadN; (exact ev_); assumption; (exact mem_); (exact sub_)); exact rfl); (apply so_want; exact rfl; (exact ev_); exact rfl; exact rfl); (apply so_callq; (exact Ev.func); (focus ((apply EvL.cons; (exact ev_)); exact EvL.nil)); (focus (repeat (first | exact App.nil | apply App.cons))); assumption; exact hmt; (exact sel_); exact rfl); (apply so_want; exact rfl; (exact ev_); exact rfl; exact rfl); (apply so_ex; (apply ex_not; (exact ev_)); exact rfl); (apply so_ex; (apply ex_pick_f; (exact ev_); (exact ev_)); exact rfl); apply so_nil; apply nm_then; (apply sc_cond_true; (exact ev_)); apply sc_seq; apply sc_region; (apply so_ex; (apply ex_assign; ((exact Ev.const))); exact rfl); apply so_nil; apply nm_then; (apply sc_ret); (apply rt_then); (apply ret_ok; (focus ((apply Res.tmp; (exact ev_)); exact Res.nil)); (exact ⟨1, S, rfl, .inl ⟨fun h => by rw [hm] at h; exact absurd h.2 (by simp), rfl, rfl⟩, m, es, c, rfl, hM⟩); (exact sel_); (exact appb_)))
    | true =>
      rw [hm] at hmt
      cases hh : hasT S tx ⟨a, b, u, e⟩ with
      | true =>
        rw [hh] at hht
        (apply sc_seq; apply sc_region; (apply so_box; (exact ev_); exact rfl; exact rfl; intro _); (apply so_ex; (apply ex_assign; ((exact Ev.const))); exact rfl); apply so_nil; apply nm_then; (apply sc_seq); apply sc_seq; apply sc_region; (apply so_ex; (apply ex_move; (exact ev_)); exact rfl); (apply so_ex; (apply ex_eqp_f; (exact ev_); ((exact Ev.const)); assumption); exact rfl); (apply so_ex; (apply ex_move; (exact ev_)); exact rfl); (apply so_want; exact rfl; (exact ev_); exact rfl; exact rfl); (apply so_ex; (apply ex_move; (exact ev_)); exact rfl); (apply so_want; exact rfl; (exact ev_); exact rfl; exact rfl); (apply so_ex; (apply ex_lss_f; (exact ev_); ((exact Ev.const)); (first | assumption | omega)); exact rfl); (apply so_ex; (apply ex_pick_f; (exact ev_); (exact ev_)); exact rfl); (apply so_ex; (apply ex_move; (exact ev_)); exact rfl); (apply so_want; exact rfl; (exact ev_); exact rfl; exact rfl); (apply so_ex; (apply ex_loadN; (exact ev_); assumption; (exact mem_); (exact sub_)); exact rfl); (apply so_want; exact rfl; (exact ev_); exact rfl; exact rfl); (apply so_callq; (exact Ev.func); (focus ((apply EvL.cons; (exact ev_)); exact EvL.nil)); (focus (repeat (first | exact App.nil | apply App.cons))); assumption; exact hmt; (exact sel_); exact rfl); (apply so_want; exact rfl; (exact ev_); exact rfl; exact rfl); (apply so_ex; (apply ex_not; (exact ev_)); exact rfl); (apply so_ex; (apply ex_pick_f; (exact ev_); (exact ev_)); exact rfl); apply so_nil; apply nm_then; (apply sc_cond_false; (exact ev_)); (apply sc_skip); (apply nm_then); (apply sc_seq); apply sc_seq; apply sc_region; (apply so_ex; (apply ex_move; (exact ev_)); exact rfl); (apply so_ex; (apply ex_move; (exact ev_)); exact rfl); (apply so_ex; (apply ex_loadN; (exact ev_); assumption; (exact mem_); (exact sub_)); exact rfl); (apply so_callq; (exact Ev.func); (focus ((apply EvL.cons; (exact ev_)); (apply EvL.cons; (exact ev_)); (apply EvL.cons; (exact ev_)); exact EvL.nil)); (focus (repeat (first | exact App.nil | apply App.cons))); assumption; exact hht; (exact sel_); exact rfl); apply so_nil; apply nm_then; (apply sc_cond_true; (exact ev_)); apply sc_seq; apply sc_region; (apply so_ex; (apply ex_assign; ((exact Ev.const))); exact rfl); apply so_nil; apply nm_then; (apply sc_ret); (apply rt_then); (apply ret_ok; (focus ((apply Res.tmp; (exact ev_)); exact Res.nil)); (exact ⟨0, S, rfl, .inr (.inl ⟨⟨h1, hm⟩, hh, rfl, rfl⟩), m, es, c, rfl, hM⟩); (exact sel_); (exact appb_)))
      | false =>
        rw [hh] at hht
        (apply sc_seq; apply sc_region; (apply so_box; (exact ev_); exact rfl; exact rfl; intro _); (apply so_ex; (apply ex_assign; ((exact Ev.const))); exact rfl); apply so_nil; apply nm_then; (apply sc_seq); apply sc_seq; apply sc_region; (apply so_ex; (apply ex_move; (exact ev_)); exact rfl); (apply so_ex; (apply ex_eqp_f; (exact ev_); ((exact Ev.const)); assumption); exact rfl); (apply so_ex; (apply ex_move; (exact ev_)); exact rfl); (apply so_want; exact rfl; (exact ev_); exact rfl; exact rfl); (apply so_ex; (apply ex_move; (exact ev_)); exact rfl); (apply so_want; exact rfl; (exact ev_); exact rfl; exact rfl); (apply so_ex; (apply ex_lss_f; (exact ev_); ((exact Ev.const)); (first | assumption | omega)); exact rfl); (apply so_ex; (apply ex_pick_f; (exact ev_); (exact ev_)); exact rfl); (apply so_ex; (apply ex_move; (exact ev_)); exact rfl); (apply so_want; exact rfl; (exact ev_); exact rfl; exact rfl); (apply so_ex; (apply ex_loadN; (exact ev_); assumption; (exact mem_); (exact sub_)); exact rfl); (apply so_want; exact rfl; (exact ev_); exact rfl; exact rfl); (apply so_callq; (exact Ev.func); (focus ((apply EvL.cons; (exact ev_)); exact EvL.nil)); (focus (repeat (first | exact App.nil | apply App.cons))); assumption; exact hmt; (exact sel_); exact rfl); (apply so_want; exact rfl; (exact ev_); exact rfl; exact rfl); (apply so_ex; (apply ex_not; (exact ev_)); exact rfl); (apply so_ex; (apply ex_pick_f; (exact ev_); (exact ev_)); exact rfl); apply so_nil; apply nm_then; (apply sc_cond_false; (exact ev_)); (apply sc_skip); (apply nm_then); (apply sc_seq); apply sc_seq; apply sc_region; (apply so_ex; (apply ex_move; (exact ev_)); exact rfl); (apply so_ex; (apply ex_move; (exact ev_)); exact rfl); (apply so_ex; (apply ex_loadN; (exact ev_); assumption; (exact mem_); (exact sub_)); exact rfl); (apply so_callq; (exact Ev.func); (focus ((apply EvL.cons; (exact ev_)); (apply EvL.cons; (exact ev_)); (apply EvL.cons; (exact ev_)); exact EvL.nil)); (focus (repeat (first | exact App.nil | apply App.cons))); assumption; exact hht; (exact sel_); exact rfl); apply so_nil; apply nm_then; (apply sc_cond_false; (exact ev_)); (apply sc_skip); (apply nm_then); apply sc_seq; apply sc_region; (apply so_ex; (apply ex_move; (exact ev_)); exact rfl); (apply so_ex; (apply ex_nilCheck; (exact ev_)); exact rfl); (apply so_ex; (apply ex_fieldAddr; (exact ev_); assumption); exact rfl); (apply so_ex; (apply ex_load1; (exact ev_); assumption; (exact mem_); (exact nth_)); exact rfl))
        (apply so_call; (exact Ev.func); (focus ((apply EvL.cons; (exact ev_)); exact EvL.nil)); (focus (repeat (first | exact App.nil | apply App.cons))); assumption; (exact clone_tri (m := m) (es := es) (c := c)); (exact sel_); exact rfl)
        rintro v L' ⟨mc, rfl, rfl⟩
        simp only [List.cons_append, List.nil_append]
        ((apply so_ex; (apply ex_assign; (exact ev_)); exact rfl); apply so_nil; apply nm_then; apply sc_seq; apply sc_region; (apply so_ex; (apply ex_move; (exact ev_)); exact rfl); (apply so_ex; (apply ex_move; (exact ev_)); exact rfl); (apply so_ex; (apply ex_loadN; (exact ev_); assumption; (exact mem_); (exact sub_)); exact rfl))
        (apply so_call; (exact Ev.func); (focus ((apply EvL.cons; (exact ev_)); (apply EvL.cons; (exact ev_)); (apply EvL.cons; (exact ev_)); exact EvL.nil)); (focus (repeat (first | exact App.nil | apply App.cons))); assumption; (exact add_tri (most := most) (m := m) hM tx ⟨a, b, u, e⟩); (exact sel_); exact rfl)
        rintro v L' ⟨m2, es2, c2, rfl, hM2⟩
        simp only [lBlk, List.cons_append, List.nil_append]
        (apply so_nil; apply nm_then; (apply sc_seq); apply sc_seq; apply sc_region; (apply so_ex; (apply ex_move; (exact ev_)); exact rfl))
        have hl := addT_len S tx ⟨a, b, u, e⟩
        (apply so_call; (exact Ev.func); (focus ((apply EvL.cons; (exact ev_)); exact EvL.nil)); (focus (repeat (first | exact App.nil | apply App.cons))); assumption; (exact coarser_tri (most := most) (m := m2) hM2 (by omega)); (exact sel_); exact rfl)
        rintro v L' ⟨S', ok, rfl, hco, m3, es3, c3, rfl, hM3⟩
        simp only [lBlk, List.cons_append, List.nil_append]
        cases ok with
        | true => ((apply so_ex; (apply ex_not; (exact ev_)); exact rfl); apply so_nil; apply nm_then; (apply sc_cond_false; (exact ev_)); (apply sc_skip); (apply nm_then); apply sc_seq; apply sc_region; (apply so_ex; (apply ex_assign; ((exact Ev.const))); exact rfl); apply so_nil; apply nm_then; (apply sc_ret); (apply ret_ok; (focus ((apply Res.tmp; (exact ev_)); exact Res.nil)); (exact ⟨0, S', rfl, .inr (.inr ⟨⟨h1, hm⟩, hh, .inl ⟨hco, rfl⟩⟩), m3, es3, c3, rfl, hM3⟩); (exact sel_); (exact appb_)))
        | false => ((apply so_ex; (apply ex_not; (exact ev_)); exact rfl); apply so_nil; apply nm_then; (apply sc_cond_true; (exact ev_)); apply sc_seq; apply sc_region; (apply so_ex; (apply ex_move; (exact ev_)); exact rfl); (apply so_ex; (apply ex_move; (exact ev_)); exact rfl); (apply so_ex; (apply ex_nilCheck; (exact ev_)); exact rfl); (apply so_ex; (apply ex_fieldAddr; (exact ev_); assumption); exact rfl); (apply so_store; (exact ev_); (exact ev_); assumption; exact rfl; exact rfl; exact rfl; (focus (repeat (first | exact Turn.here | apply Turn.there))); (focus (repeat (first | exact SetSub.nil | apply SetSub.take | apply SetSub.drop)))); apply so_nil; apply nm_then; apply sc_seq; apply sc_region; (apply so_ex; (apply ex_assign; ((exact Ev.const))); exact rfl); apply so_nil; apply nm_then; (apply sc_ret); (apply rt_then); (apply ret_ok; (focus ((apply Res.tmp; (exact ev_)); exact Res.nil)); (exact ⟨45, S, rfl, .inr (.inr ⟨⟨h1, hm⟩, hh, .inr ⟨S', hco, rfl, rfl⟩⟩), mc, es, c, rfl, hM⟩); (exact sel_); (exact appb_)))
  · (apply sc_seq; apply sc_region; (apply so_box; (exact ev_); exact rfl; exact rfl; intro _); (apply so_ex; (apply ex_assign; ((exact Ev.const))); exact rfl); apply so_nil; apply nm_then; (apply sc_seq); apply sc_seq; apply sc_region; (apply so_ex; (apply ex_move; (exact ev_)); exact rfl); (apply so_ex; (apply ex_eqp_f; (exact ev_); ((exact Ev.const)); assumption); exact rfl); (apply so_ex; (apply ex_move; (exact ev_)); exact rfl); (apply so_want; exact rfl; (exact ev_); exact rfl; exact rfl); (apply so_ex; (apply ex_move; (exact ev_)); exact rfl); (apply so_want; exact rfl; (exact ev_); exact rfl; exact rfl); (apply so_ex; (apply ex_lss_t; (exact ev_); ((exact Ev.const)); (first | assumption | omega)); exact rfl); (apply so_ex; (apply ex_pick_f; (exact ev_); (exact ev_)); exact rfl); (apply so_ex; (apply ex_move; (exact ev_)); exact rfl); (apply so_skip; exact rfl; (exact ev_); exact rfl; exact rfl; exact rfl); (apply so_skip; exact rfl; (exact ev_); exact rfl; exact rfl; exact rfl); (apply so_skip; exact rfl; (exact ev_); exact rfl; exact rfl; exact rfl); (apply so_ex; (apply ex_pick_t; (exact ev_); ((exact Ev.const))); exact rfl); apply so_nil; apply nm_then; (apply sc_cond_true; (exact ev_)); apply sc_seq; apply sc_region; (apply so_ex; (apply ex_assign; ((exact Ev.const))); exact rfl); apply so_nil; apply nm_then; (apply sc_ret); (apply rt_then); (apply ret_ok; (focus ((apply Res.tmp; (exact ev_)); exact Res.nil)); (exact ⟨1, S, rfl, .inl ⟨fun h => h1 h.1, rfl, rfl⟩, m, es, c, rfl, hM⟩); (exact sel_); (exact appb_)))
end Go.Proofs.Ytbpioemenmahaaa
namespace Go.Proofs.Ytbpioemenmahaaa
open Go.Sym

def rowT (t p s : Int) : Tgt := ⟨1, t, p, s⟩
theorem cnt_mem {to : Lk → Option Lk} {S : List Lk} {g : Lk} (h : 2 ≤ cnt to S g) : g ∈ S.filterMap to := by
  unfold cnt at h
  have hne : (S.filter fun k => decide (to k = some g)) ≠ [] := fun e => by rw [e] at h; simp at h
  obtain ⟨k, hk⟩ := List.exists_mem_of_ne_nil _ hne
  obtain ⟨h1, h2⟩ := List.mem_filter.1 hk
  exact List.mem_filterMap.2 ⟨k, h1, by simpa using h2⟩
theorem co_done {most : Int} {S S' : List Lk} {ok : Bool} (h : ¬ ((S.length : Int) > max most 1)) (hc : Co most S S' ok) : S' = S ∧ ok = true := by
  cases hc with
  | done _ => exact ⟨rfl, rfl⟩
  | page h1 _ _ => exact absurd h1 h
  | table h1 _ _ _ => exact absurd h1 h
  | fail h1 _ _ => exact absurd h1 h
theorem co_page {most : Int} {S S' : List Lk} {ok : Bool} {g : Lk} (h : (S.length : Int) > max most 1) (h2 : 2 ≤ cnt toPage S g) (hu : ∀ x ∈ S.filterMap toPage, 2 ≤ cnt toPage S x → x = g) (hc : Co most S S' ok) : Co most (addT S g.tx g.on) S' ok := by
  cases hc with
  | done h1 => exact absurd h h1
  | page _ hb hc =>
    have := hu _ (cnt_mem hb.1) hb.1
    subst this
    exact hc
  | table _ hn _ _ => exact absurd h2 (Nat.not_le.2 (hn g))
  | fail _ hn _ => exact absurd h2 (Nat.not_le.2 (hn g))
theorem co_table {most : Int} {S S' : List Lk} {ok : Bool} {g : Lk} (h : (S.length : Int) > max most 1) (hp : ∀ x ∈ S.filterMap toPage, ¬ 2 ≤ cnt toPage S x) (h2 : 2 ≤ cnt toTable S g) (hu : ∀ x ∈ S.filterMap toTable, 2 ≤ cnt toTable S x → x = g) (hc : Co most S S' ok) : Co most (addT S g.tx g.on) S' ok := by
  cases hc with
  | done h1 => exact absurd h h1
  | page _ hb hc => exact absurd hb.1 (hp _ (cnt_mem hb.1))
  | table _ _ hb hc =>
    have := hu _ (cnt_mem hb.1) hb.1
    subst this
    exact hc
  | fail _ _ hn => exact absurd h2 (Nat.not_le.2 (hn g))
theorem co_fail {most : Int} {S S' : List Lk} {ok : Bool} (h : (S.length : Int) > max most 1) (hp : ∀ x ∈ S.filterMap toPage, ¬ 2 ≤ cnt toPage S x) (ht : ∀ x ∈ S.filterMap toTable, ¬ 2 ≤ cnt toTable S x) (hc : Co most S S' ok) : ok = false := by
  cases hc with
  | done h1 => exact absurd h h1
  | page _ hb _ => exact absurd hb.1 (hp _ (cnt_mem hb.1))
  | table _ _ hb _ => exact absurd hb.1 (ht _ (cnt_mem hb.1))
  | fail _ _ _ => rfl
/-- a lock is read that was not held -/
theorem readR_new {most : Int} {S S' : List Lk} {tx r : Int} {t : Tgt} (h1 : 1 ≤ tx) (hm : mayT t = true) (hn : hasT S tx t = false) (h : ReadR most S tx t r S') :
    (Co most (addT S tx t) S' true ∧ r = 0) ∨ (∃ S2, Co most (addT S tx t) S2 false ∧ r = 45 ∧ S' = S) := by
  rcases h with ⟨h, _⟩ | ⟨_, h, _⟩ | ⟨_, _, h⟩
  · exact absurd ⟨h1, hm⟩ h
  · rw [hn] at h; cases h
  · exact h
theorem readR_done {most : Int} {S S' : List Lk} {tx r : Int} {t : Tgt} (h1 : 1 ≤ tx) (hm : mayT t = true) (hn : hasT S tx t = false) (hl : ¬ (((addT S tx t).length : Int) > max most 1)) (h : ReadR most S tx t r S') : r = 0 ∧ S' = addT S tx t := by
  rcases readR_new h1 hm hn h with ⟨hc, hr⟩ | ⟨S2, hc, _⟩
  · exact ⟨hr, (co_done hl hc).1⟩
  · cases (co_done hl hc).2
theorem read1 {r : Int} {S' : List Lk} (h : ReadR 2 [] 1 (rowT 0 0 1) r S') : r = 0 ∧ S' = [⟨1, rowT 0 0 1⟩] := readR_done (by decide) (by decide) (by decide) (by decide) h
theorem read2 {r : Int} {S' : List Lk} (h : ReadR 2 [⟨1, rowT 0 0 1⟩] 1 (rowT 0 0 2) r S') : r = 0 ∧ S' = [⟨1, rowT 0 0 1⟩, ⟨1, rowT 0 0 2⟩] := readR_done (by decide) (by decide) (by decide) (by decide) h
theorem read3 {r : Int} {S' : List Lk} (h : ReadR 2 [⟨1, rowT 0 0 1⟩, ⟨1, rowT 0 0 2⟩] 1 (rowT 0 3 1) r S') : r = 0 ∧ S' = [⟨1, rowT 0 3 1⟩, ⟨1, pageT 0 0⟩] := by
  have key : ∀ S2 ok, Co 2 (addT [⟨1, rowT 0 0 1⟩, ⟨1, rowT 0 0 2⟩] 1 (rowT 0 3 1)) S2 ok → S2 = [⟨1, rowT 0 3 1⟩, ⟨1, pageT 0 0⟩] ∧ ok = true := fun S2 ok hc => by
    have h1 := co_page (g := ⟨1, pageT 0 0⟩) (by decide) (by decide) (by decide) hc
    exact co_done (S := [⟨1, rowT 0 3 1⟩, ⟨1, pageT 0 0⟩]) (by decide) h1
  rcases readR_new (by decide) (by decide) (by decide) h with ⟨hc, hr⟩ | ⟨S2, hc, _⟩
  · exact ⟨hr, (key _ _ hc).1⟩
  · cases (key _ _ hc).2
theorem read4 {r : Int} {S' : List Lk} (h : ReadR 2 [⟨1, rowT 0 3 1⟩, ⟨1, pageT 0 0⟩] 2 (rowT 0 0 1) r S') : r = 0 ∧ S' = [⟨2, rowT 0 0 1⟩, ⟨1, tableT 0⟩] := by
  have key : ∀ S2 ok, Co 2 (addT [⟨1, rowT 0 3 1⟩, ⟨1, pageT 0 0⟩] 2 (rowT 0 0 1)) S2 ok → S2 = [⟨2, rowT 0 0 1⟩, ⟨1, tableT 0⟩] ∧ ok = true := fun S2 ok hc => by
    have h1 := co_table (g := ⟨1, tableT 0⟩) (by decide) (by decide) (by decide) (by decide) hc
    exact co_done (S := [⟨2, rowT 0 0 1⟩, ⟨1, tableT 0⟩]) (by decide) h1
  rcases readR_new (by decide) (by decide) (by decide) h with ⟨hc, hr⟩ | ⟨S2, hc, _⟩
  · exact ⟨hr, (key _ _ hc).1⟩
  · cases (key _ _ hc).2
theorem read5 {r : Int} {S' : List Lk} (h : ReadR 2 [⟨2, rowT 0 0 1⟩, ⟨1, tableT 0⟩] 3 (tableT 1) r S') : r = 45 ∧ S' = [⟨2, rowT 0 0 1⟩, ⟨1, tableT 0⟩] := by
  have key : ∀ S2 ok, Co 2 (addT [⟨2, rowT 0 0 1⟩, ⟨1, tableT 0⟩] 3 (tableT 1)) S2 ok → ok = false := fun S2 ok hc => co_fail (by decide) (by decide) (by decide) hc
  rcases readR_new (by decide) (by decide) (by decide) h with ⟨hc, hr⟩ | ⟨S2, hc, hr, hs⟩
  · cases key _ _ hc
  · exact ⟨hr, hs⟩
end Go.Proofs.Ytbpioemenmahaaa
namespace Go.Proofs.Ytbpioemenmahaaa
open Go.Sym

theorem coversT_trans {a b c : Tgt} (h1 : coversT a b = true) (h2 : coversT b c = true) : coversT a c = true := by
  simp only [coversT, Bool.or_eq_true, Bool.and_eq_true, beq_iff_eq] at h1 h2 ⊢
  rcases h1 with (h1 | h1) | ⟨hk, h1⟩
  · subst h1; exact h2
  · rcases h2 with (h2 | h2) | ⟨hk2, h2⟩
    · subst h2; exact .inl (.inr h1)
    · subst h2; exact .inl (.inr h1)
    · subst h2; exact .inl (.inr h1)
  · rcases h2 with (h2 | h2) | ⟨hk2, h2⟩
    · subst h2; exact .inr ⟨hk, h1⟩
    · subst h2; simp [tableT] at hk
    · subst h2; simp [pageT] at hk
theorem hasT_iff {S : List Lk} {tx : Int} {t : Tgt} : hasT S tx t = true ↔ mayT t = true ∧ ∃ k ∈ S, k.tx = tx ∧ coversT k.on t = true := by
  unfold hasT
  simp [List.any_eq_true]
theorem hasT_add {S : List Lk} {tx tx' : Int} {t t' : Tgt} (h : hasT S tx' t' = true) : hasT (addT S tx t) tx' t' = true := by
  rw [hasT_iff] at h ⊢
  obtain ⟨hm, k, hk, hx, hc⟩ := h
  refine ⟨hm, ?_⟩
  by_cases hf : k.tx = tx ∧ coversT t k.on = true
  · exact ⟨⟨tx, t⟩, by simp [addT], hf.1.symm.trans hx, coversT_trans hf.2 hc⟩
  · refine ⟨k, ?_, hx, hc⟩
    unfold addT
    refine List.mem_append_left _ (List.mem_filter.2 ⟨hk, ?_⟩)
    by_cases h1 : k.tx = tx
    · have : coversT t k.on = false := by simpa using fun e => hf ⟨h1, e⟩
      simp [this]
    · simp [h1]
theorem hasT_new (S : List Lk) {tx : Int} {t : Tgt} (hm : mayT t = true) : hasT (addT S tx t) tx t = true := by
  rw [hasT_iff]
  exact ⟨hm, ⟨tx, t⟩, by simp [addT], rfl, coversT_self t⟩
theorem hasT_co {most : Int} {S S' : List Lk} {ok : Bool} (hc : Co most S S' ok) {tx : Int} {t : Tgt} (h : hasT S tx t = true) : hasT S' tx t = true := by
  induction hc with
  | done _ => exact h
  | page _ _ _ ih => exact ih (hasT_add h)
  | table _ _ _ _ ih => exact ih (hasT_add h)
  | fail _ _ _ => exact h
theorem co_len {most : Int} {S S' : List Lk} {ok : Bool} (hc : Co most S S' ok) (ho : ok = true) : (S'.length : Int) ≤ max most 1 := by
  induction hc with
  | done h => omega
  | page _ _ _ ih => exact ih ho
  | table _ _ _ _ ih => exact ih ho
  | fail _ _ _ => cases ho
theorem hasT_drop {S : List Lk} {tx tx' : Int} {t : Tgt} (hne : tx' ≠ tx) (h : hasT S tx' t = true) : hasT (dropT S tx) tx' t = true := by
  rw [hasT_iff] at h ⊢
  obtain ⟨hm, k, hk, hx, hc⟩ := h
  exact ⟨hm, k, List.mem_filter.2 ⟨hk, by simp; omega⟩, hx, hc⟩
theorem hasT_dropped (S : List Lk) (tx : Int) (t : Tgt) : hasT (dropT S tx) tx t = false := by
  cases h : hasT (dropT S tx) tx t with
  | false => rfl
  | true =>
    rw [hasT_iff] at h
    obtain ⟨_, k, hk, hx, _⟩ := h
    have := (List.mem_filter.1 hk).2
    simp [hx] at this
end Go.Proofs.Ytbpioemenmahaaa
namespace Go.Proofs.Ytbpioemenmahaaa
open Go.Sym

/-- a read while there is room -/
def readT (S : List Lk) (tx : Int) (t : Tgt) : List Lk := if hasT S tx t then S else addT S tx t
theorem readR_room {most : Int} {S S' : List Lk} {tx r : Int} {t : Tgt} (h1 : 1 ≤ tx) (hm : mayT t = true) (hl : (S.length : Int) + 1 ≤ most) (h : ReadR most S tx t r S') : r = 0 ∧ S' = readT S tx t := by
  unfold readT
  have hlen := addT_len S tx t
  rcases h with ⟨h, _⟩ | ⟨_, hh, rfl, rfl⟩ | ⟨_, hh, ⟨hc, rfl⟩ | ⟨S2, hc, rfl, rfl⟩⟩
  · exact absurd ⟨h1, hm⟩ h
  · rw [if_pos hh]; exact ⟨rfl, rfl⟩
  · rw [hh, if_neg (by simp)]
    exact ⟨rfl, (co_done (by omega) hc).1⟩
  · cases (co_done (by omega) hc).2
theorem readT_len (S : List Lk) (tx : Int) (t : Tgt) : (readT S tx t).length ≤ S.length + 1 := by
  unfold readT
  have := addT_len S tx t
  split <;> omega
/-- the locks of one transaction -/
def ofT (S : List Lk) (x : Int) : List Lk := S.filter fun k => decide (k.tx = x)
theorem hasT_ofT (S : List Lk) (x : Int) (t : Tgt) : hasT (ofT S x) x t = hasT S x t := by
  unfold hasT ofT
  rw [List.any_filter]
  congr 1
  congr 1
  funext k
  by_cases h : k.tx = x <;> simp [h]
theorem ofT_addT (S : List Lk) (tx x : Int) (t : Tgt) : ofT (addT S tx t) x = if tx = x then addT (ofT S x) tx t else ofT S x := by
  unfold ofT addT
  rw [List.filter_append, List.filter_filter]
  by_cases h : tx = x
  · subst h
    simp only [if_true, List.filter_filter]
    congr 1
    · apply List.filter_congr; intro k _; exact Bool.and_comm _ _
    · simp
  · simp only [h, if_false]
    have e : (List.filter (fun k : Lk => decide (k.tx = x)) [⟨tx, t⟩]) = [] := by simp [h]
    rw [e, List.append_nil]
    apply List.filter_congr
    intro k _
    by_cases hk : k.tx = x
    · have : k.tx ≠ tx := fun e => h (e.symm.trans hk)
      simp [hk, Ne.symm h]
    · simp [hk]
theorem ofT_readT (S : List Lk) (tx x : Int) (t : Tgt) : ofT (readT S tx t) x = if tx = x then readT (ofT S x) tx t else ofT S x := by
  unfold readT
  by_cases h : tx = x
  · subst h
    rw [hasT_ofT]
    simp only [if_true]
    split
    · rfl
    · rw [ofT_addT, if_pos rfl]
  · simp only [h, if_false]
    split
    · rfl
    · rw [ofT_addT, if_neg h]
def runT (S : List Lk) (l : List (Int × Tgt)) : List Lk := l.foldl (fun S c => readT S c.1 c.2) S
theorem runT_snoc (S : List Lk) (l : List (Int × Tgt)) (c : Int × Tgt) : runT S (l ++ [c]) = readT (runT S l) c.1 c.2 := by simp [runT]
theorem runT_len (l : List (Int × Tgt)) : (runT [] l).length ≤ l.length := by
  suffices h : ∀ S : List Lk, (runT S l).length ≤ S.length + l.length by simpa using h []
  induction l with
  | nil => intro S; simp [runT]
  | cons c l ih =>
    intro S
    have h1 := ih (readT S c.1 c.2)
    have h2 := readT_len S c.1 c.2
    simp only [runT, List.foldl_cons, List.length_cons] at h1 ⊢
    omega
theorem ofT_runT (l : List (Int × Tgt)) (x : Int) : ∀ S : List Lk, ofT (runT S l) x = runT (ofT S x) (l.filter fun c => decide (c.1 = x)) := by
  induction l with
  | nil => intro S; rfl
  | cons c l ih =>
    intro S
    have h1 := ih (readT S c.1 c.2)
    rw [ofT_readT] at h1
    simp only [runT, List.foldl_cons] at h1 ⊢
    rw [h1]
    by_cases h : c.1 = x
    · simp [h, List.filter_cons]
    · simp [h, List.filter_cons]
/-- the reads of the transactions 5, 4, .. one after the other -/
def part (l : List (Int × Tgt)) : Nat → List (Int × Tgt)
  | 0 => []
  | k + 1 => part l k ++ l.filter fun c => decide (c.1 = 5 - (k : Int))
theorem part_len (l : List (Int × Tgt)) (k : Nat) : (part l k).length ≤ k * l.length := by
  induction k with
  | zero => simp [part]
  | succ k ih =>
    have := List.length_filter_le (fun c : Int × Tgt => decide (c.1 = 5 - (k : Int))) l
    rw [part, List.length_append, Nat.succ_mul]
    omega
theorem part_filter (l : List (Int × Tgt)) (x : Int) : ∀ k : Nat, (part l k).filter (fun c => decide (c.1 = x)) = if 5 - (k : Int) < x ∧ x ≤ 5 then l.filter (fun c => decide (c.1 = x)) else [] := by
  intro k
  induction k with
  | zero => rw [if_neg (by omega)]; rfl
  | succ k ih =>
    rw [part, List.filter_append, ih, List.filter_filter]
    by_cases h : x = 5 - (k : Int)
    · rw [if_neg (by omega), if_pos (by omega), List.nil_append]
      apply List.filter_congr
      intro c _
      simp only [← h, Bool.and_self]
    · have e : (l.filter fun c => decide (c.1 = x) && decide (c.1 = 5 - (k : Int))) = [] := by
        rw [List.filter_eq_nil_iff]
        intro c _
        simp only [Bool.and_eq_true, decide_eq_true_eq]
        omega
      rw [e, List.append_nil]
      by_cases h2 : 5 - (k : Int) < x ∧ x ≤ 5
      · rw [if_pos h2, if_pos (by omega)]
      · rw [if_neg h2, if_neg (by omega)]
theorem part_perm {l : List (Int × Tgt)} (h : ∀ c ∈ l, 1 ≤ c.1 ∧ c.1 ≤ 5) : (runT [] l).Perm (runT [] (part l 5)) := by
  have key : ∀ x : Int, ofT (runT [] l) x = ofT (runT [] (part l 5)) x := fun x => by
    rw [ofT_runT, ofT_runT, part_filter]
    split
    · rfl
    · rename_i hx
      have e : (l.filter fun c => decide (c.1 = x)) = [] := by
        rw [List.filter_eq_nil_iff]
        intro c hc
        have := h c hc
        simp only [decide_eq_true_eq]
        omega
      rw [e]
  rw [List.perm_iff_count]
  intro k
  have h1 : ∀ S : List Lk, List.count k S = List.count k (ofT S k.tx) := fun S => by
    unfold ofT
    rw [List.count_filter (by simp)]
  rw [h1, h1 (runT [] (part l 5)), key]
/-- the reads of one transaction are few -/
theorem part_le (l : List (Int × Tgt)) (k : Nat) : (part l k).length ≤ l.length := by
  have h : ∀ k : Nat, (part l k).length = (l.filter fun c => decide (5 - (k : Int) < c.1 ∧ c.1 ≤ 5)).length := by
    intro k
    induction k with
    | zero =>
      have e : (l.filter fun c => decide (5 - ((0 : Nat) : Int) < c.1 ∧ c.1 ≤ 5)) = [] := by
        rw [List.filter_eq_nil_iff]
        intro c _
        simp only [decide_eq_true_eq]
        omega
      rw [e]; rfl
    | succ k ih =>
      rw [part, List.length_append, ih]
      rw [← List.countP_eq_length_filter, ← List.countP_eq_length_filter, ← List.countP_eq_length_filter]
      clear ih
      induction l with
      | nil => rfl
      | cons c l ih =>
        simp only [List.countP_cons]
        rw [← ih]
        simp only [decide_eq_true_eq]
        split <;> split <;> split <;> omega
  rw [h]
  exact List.length_filter_le _ _
end Go.Proofs.Ytbpioemenmahaaa
namespace Go.Proofs.Ytbpioemenmahaaa
open Go.Sym

/-- the owners of a leaf -/
structure Owns (S : List Lk) (n leaf to : Int) (zs : List Int) : Prop where
  nodup : zs.Nodup
  sorted : zs.Pairwise (· ≤ ·)
  mem : ∀ x, x ∈ zs ↔ (0 ≤ n ∧ 0 ≤ leaf ∧ 0 ≤ to ∧ leaf ≠ to) ∧ (⟨x, leafT n leaf⟩ : Lk) ∈ S
/-- what Split does for the owners zs -/
inductive SpL (most : Int) (t : Tgt) : List Int → List Lk → List Lk → Prop
  | nil {S} : SpL most t [] S S
  | has {tx zs S S'} : hasT S tx t = true → SpL most t zs S S' → SpL most t (tx :: zs) S S'
  | lay {tx zs S S2 S' ok} : hasT S tx t = false → Co most (addT S tx t) S2 ok → SpL most t zs S2 S' → SpL most t (tx :: zs) S S'
def mgStep (fr to : Tgt) (S : List Lk) (tx : Int) : List Lk :=
  readT (S.filter fun x => !decide (x = (⟨tx, fr⟩ : Lk))) tx to
/-- what Merge does for the owners zs -/
def mgT (fr to : Tgt) (zs : List Int) (S : List Lk) : List Lk := zs.foldl (mgStep fr to) S
theorem co_le {most : Int} {S S' : List Lk} {ok : Bool} (hc : Co most S S' ok) : S'.length ≤ S.length := by
  induction hc with
  | done _ => exact Nat.le_refl _
  | page _ hb _ ih => have := addT_lt fits_page hb.1; omega
  | table _ _ hb _ ih => have := addT_lt fits_table hb.1; omega
  | fail _ _ _ => exact Nat.le_refl _
theorem mgStep_len (fr to : Tgt) (S : List Lk) (tx : Int) : (mgStep fr to S tx).length ≤ S.length + 1 := by
  unfold mgStep
  have h1 := List.length_filter_le (fun x => !decide (x = (⟨tx, fr⟩ : Lk))) S
  have h2 := readT_len (S.filter fun x => !decide (x = (⟨tx, fr⟩ : Lk))) tx to
  omega
theorem owns_len {S : List Lk} {n leaf to : Int} {zs : List Int} (h : Owns S n leaf to zs) : zs.length ≤ S.length := by
  have := nodup_len zs (S.map (·.tx)) h.nodup fun x hx => List.mem_map.2 ⟨_, ((h.mem x).1 hx).2, rfl⟩
  simpa using this
/-! ### enough room -/
theorem spl_room {most : Int} {t : Tgt} {zs : List Int} {S S' : List Lk} (h : SpL most t zs S S') : (S.length : Int) + zs.length ≤ most → S' = zs.foldl (fun S x => readT S x t) S := by
  induction h with
  | nil => intro _; rfl
  | has hh _ ih =>
    intro hl
    simp only [List.length_cons] at hl
    rw [ih (by omega), List.foldl_cons]
    congr 1
    unfold readT; rw [if_pos hh]
  | @lay tx zs S S2 S' ok hh hc _ ih =>
    intro hl
    simp only [List.length_cons] at hl
    have hlen := addT_len S tx t
    have e := (co_done (by omega) hc).1
    subst e
    rw [ih (by omega), List.foldl_cons]
    congr 1
    unfold readT; rw [hh, if_neg (by simp)]
theorem mem_addT {S : List Lk} {tx : Int} {t : Tgt} {k : Lk} : k ∈ addT S tx t ↔ (k ∈ S ∧ ¬ (k.tx = tx ∧ coversT t k.on = true)) ∨ k = ⟨tx, t⟩ := by
  unfold addT
  rw [List.mem_append, List.mem_filter, List.mem_singleton]
  by_cases h : k.tx = tx <;> simp [h]
/-- a leaf covers itself alone -/
theorem leaf_covers {n a : Int} {t : Tgt} : coversT (leafT n a) t = true ↔ t = leafT n a := by
  obtain ⟨k, tb, p, s⟩ := t
  simp only [coversT, leafT, tableT, pageT, Bool.or_eq_true, Bool.and_eq_true, beq_iff_eq, Tgt.mk.injEq]
  omega
theorem covers_leaf {n a : Int} {t : Tgt} : coversT t (leafT n a) = true ↔ t = leafT n a ∨ t = tableT n := by
  simp [coversT, leafT]
theorem has_leaf {S : List Lk} {x n a : Int} : hasT S x (leafT n a) = true ↔ (0 ≤ n ∧ 0 ≤ a) ∧ ((⟨x, leafT n a⟩ : Lk) ∈ S ∨ (⟨x, tableT n⟩ : Lk) ∈ S) := by
  rw [hasT_iff]
  have hm : mayT (leafT n a) = true ↔ (0 ≤ n ∧ 0 ≤ a) := by simp [mayT, leafT]
  rw [hm]
  constructor
  · rintro ⟨h1, ⟨tx, on⟩, h2, h3, h4⟩
    refine ⟨h1, ?_⟩
    simp only at h3 h4
    subst h3
    rcases covers_leaf.1 h4 with e | e
    · subst e; exact .inl h2
    · subst e; exact .inr h2
  · rintro ⟨h1, h2 | h2⟩
    · exact ⟨h1, _, h2, rfl, covers_leaf.2 (.inl rfl)⟩
    · exact ⟨h1, _, h2, rfl, covers_leaf.2 (.inr rfl)⟩
theorem has_table {S : List Lk} {x n : Int} : hasT S x (tableT n) = true ↔ 0 ≤ n ∧ (⟨x, tableT n⟩ : Lk) ∈ S := by
  rw [hasT_iff]
  have hm : mayT (tableT n) = true ↔ 0 ≤ n := by simp [mayT, tableT]
  have hc : ∀ t, coversT t (tableT n) = true ↔ t = tableT n := fun t => by simp [coversT, tableT]
  rw [hm]
  constructor
  · rintro ⟨h1, ⟨tx, on⟩, h2, h3, h4⟩
    simp only at h3 h4
    subst h3
    rw [hc] at h4
    subst h4
    exact ⟨h1, h2⟩
  · rintro ⟨h1, h2⟩
    exact ⟨h1, _, h2, rfl, (hc _).2 rfl⟩
theorem mem_readLeaf {S : List Lk} {tx n a : Int} (h0 : 0 ≤ n ∧ 0 ≤ a) {k : Lk} : k ∈ readT S tx (leafT n a) ↔ k ∈ S ∨ (k = ⟨tx, leafT n a⟩ ∧ (⟨tx, tableT n⟩ : Lk) ∉ S) := by
  unfold readT
  cases hh : hasT S tx (leafT n a) with
  | true =>
    simp only [if_true]
    rw [has_leaf] at hh
    constructor
    · exact .inl
    · rintro (h | ⟨rfl, h⟩)
      · exact h
      · exact hh.2.elim id fun h2 => absurd h2 h
  | false =>
    simp only [Bool.false_eq_true, if_false]
    have hn : ¬ ((⟨tx, leafT n a⟩ : Lk) ∈ S ∨ (⟨tx, tableT n⟩ : Lk) ∈ S) := fun h => by
      have := has_leaf.2 ⟨h0, h⟩
      rw [hh] at this; cases this
    rw [mem_addT]
    constructor
    · rintro (⟨h1, _⟩ | rfl)
      · exact .inl h1
      · exact .inr ⟨rfl, fun h => hn (.inr h)⟩
    · rintro (h1 | ⟨rfl, _⟩)
      · refine .inl ⟨h1, fun ⟨h2, h3⟩ => hn (.inl ?_)⟩
        rw [leaf_covers] at h3
        obtain ⟨ktx, kon⟩ := k
        simp only at h2 h3
        subst h2; subst h3
        exact h1
      · exact .inr rfl
/-- Split, while there is room -/
theorem spl_mem {n a : Int} (h0 : 0 ≤ n ∧ 0 ≤ a) : ∀ (zs : List Int) (S : List Lk) (k : Lk), k ∈ zs.foldl (fun S x => readT S x (leafT n a)) S ↔ k ∈ S ∨ ∃ x ∈ zs, k = ⟨x, leafT n a⟩ ∧ (⟨x, tableT n⟩ : Lk) ∉ S
  | [], S, k => by simp
  | x :: zs, S, k => by
    rw [List.foldl_cons, spl_mem h0 zs, mem_readLeaf h0]
    have ht : ∀ y : Int, (⟨y, tableT n⟩ : Lk) ∈ readT S x (leafT n a) ↔ (⟨y, tableT n⟩ : Lk) ∈ S := fun y => by
      rw [mem_readLeaf h0]
      constructor
      · rintro (h | ⟨h, _⟩)
        · exact h
        · injection h with h1 h2; exact absurd h2 (by simp [tableT, leafT])
      · exact .inl
    simp only [ht, List.mem_cons, exists_eq_or_imp]
    exact or_assoc
theorem mem_mgStep {n a b : Int} (h0 : 0 ≤ n ∧ 0 ≤ b) {S : List Lk} {tx : Int} {k : Lk} : k ∈ mgStep (leafT n a) (leafT n b) S tx ↔ (k ∈ S ∧ k ≠ ⟨tx, leafT n a⟩) ∨ (k = ⟨tx, leafT n b⟩ ∧ (⟨tx, tableT n⟩ : Lk) ∉ S) := by
  unfold mgStep
  rw [mem_readLeaf h0, List.mem_filter, List.mem_filter]
  have : (⟨tx, tableT n⟩ : Lk) ≠ ⟨tx, leafT n a⟩ := fun h => by injection h with h1 h2; exact absurd h2 (by simp [tableT, leafT])
  simp [this]
/-- Merge -/
theorem mg_mem {n a b : Int} (h0 : 0 ≤ n ∧ 0 ≤ b) (hab : a ≠ b) : ∀ (zs : List Int) (S : List Lk) (k : Lk), k ∈ mgT (leafT n a) (leafT n b) zs S ↔ (k ∈ S ∧ ∀ x ∈ zs, k ≠ ⟨x, leafT n a⟩) ∨ ∃ x ∈ zs, k = ⟨x, leafT n b⟩ ∧ (⟨x, tableT n⟩ : Lk) ∉ S
  | [], S, k => by simp [mgT]
  | x :: zs, S, k => by
    have ih := mg_mem h0 hab zs (mgStep (leafT n a) (leafT n b) S x) k
    have e : mgT (leafT n a) (leafT n b) (x :: zs) S = mgT (leafT n a) (leafT n b) zs (mgStep (leafT n a) (leafT n b) S x) := rfl
    rw [e, ih, mem_mgStep h0]
    have ht : ∀ y : Int, (⟨y, tableT n⟩ : Lk) ∈ mgStep (leafT n a) (leafT n b) S x ↔ (⟨y, tableT n⟩ : Lk) ∈ S := fun y => by
      rw [mem_mgStep h0]
      constructor
      · rintro (⟨h, _⟩ | ⟨h, _⟩)
        · exact h
        · injection h with h1 h2; exact absurd h2 (by simp [tableT, leafT])
      · refine fun h => .inl ⟨h, fun h => ?_⟩
        injection h with h1 h2; exact absurd h2 (by simp [tableT, leafT])
    simp only [ht, List.mem_cons, exists_eq_or_imp, forall_eq_or_imp]
    constructor
    · rintro (⟨⟨h1, h2⟩ | h1, h3⟩ | h)
      · exact .inl ⟨h1, h2, h3⟩
      · exact .inr (.inl h1)
      · exact .inr (.inr h)
    · rintro (⟨h1, h2, h3⟩ | h1 | h)
      · exact .inl ⟨.inl ⟨h1, h2⟩, h3⟩
      · refine .inl ⟨.inr h1, fun y _ h => ?_⟩
        rw [h1.1] at h
        injection h with h2 h3
        simp [leafT] at h3
        omega
      · exact .inr h
end Go.Proofs.Ytbpioemenmahaaa
