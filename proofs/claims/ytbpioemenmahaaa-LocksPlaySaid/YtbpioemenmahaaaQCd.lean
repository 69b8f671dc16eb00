/- Locks: Holders. -/
import Derived.Test.YtbpioemenmahaaaQCc
set_option linter.unusedVariables false
set_option linter.unusedSimpArgs false
set_option linter.unnecessarySimpa false
namespace Go.Proofs.Ytbpioemenmahaaa
open Go.Sym

def hitT (k : Lk) (t : Tgt) : Bool := mayT t && coversT k.on t
def hits (k : Lk) (ts : List Tgt) : Bool := ts.any fun t => hitT k t
theorem putV_fv (zs : List Int) (z : Int) : putV (fv zs) z (.bool true) = fv (if z ∈ zs then zs else zs ++ [z]) := by
  unfold putV
  have hh : hasK (fv zs) z = decide (z ∈ zs) := by
    unfold hasK fv
    rw [List.any_map, Bool.eq_iff_iff, List.any_eq_true]
    simp
  rw [hh]
  by_cases h : z ∈ zs
  · simp only [h, decide_true, if_true]
    unfold fv
    rw [List.map_map]
    apply List.map_congr_left
    intro a _
    simp only [Function.comp]
    split <;> rfl
  · simp [h, fv]
def tcells (ts : List Tgt) : List Value := ts.flatMap fun t => t.cells
theorem tcells_get : ∀ {ts : List Tgt} {j : Nat} (h : j < ts.length) (q : Nat), q < 4 → (tcells ts)[j * 4 + q]? = (ts[j]).cells[q]?
  | t :: ts, 0, _, q, hq => by
    unfold tcells
    rw [List.flatMap_cons, Nat.zero_mul, Nat.zero_add, List.getElem?_append_left (by simpa using hq)]
    rfl
  | t :: ts, j + 1, h, q, hq => by
    have ih := tcells_get (ts := ts) (j := j) (by simpa using h) q hq
    unfold tcells at ih ⊢
    rw [List.flatMap_cons, List.getElem?_append_right (by simp; omega)]
    have e : (j + 1) * 4 + q - t.cells.length = j * 4 + q := by simp; omega
    rw [e, ih]
    simp
theorem mem_putI {zs : List Int} {z x : Int} : x ∈ (if z ∈ zs then zs else zs ++ [z]) ↔ x ∈ zs ∨ z = x := by
  split
  · rename_i h
    exact ⟨.inl, fun h2 => h2.elim id fun e => e ▸ h⟩
  · simp [eq_comm]
theorem hits_take {k : Lk} {ts : List Tgt} {j : Nat} (h : j < ts.length) : hits k (ts.take (j + 1)) = (hits k (ts.take j) || hitT k ts[j]) := by
  unfold hits
  rw [List.take_add_one, List.getElem?_eq_getElem h, List.any_append]
  simp
theorem keys_tri (mf : Nat) : Tri Try.prog 51 #[.map (some mf)] [] fun v L => ∃ B, v = .func (.func 69) #[] #[.pointer (some ⟨B, 0, none⟩)] ∧ L = [(B, .cells [Value.map (some mf)].toArray 88)] := by
  have f_mixed := mixed; have f_en69 := en69; have f_ty88 := ty88
  refine tri_intro (args := [_]) Try.func51 rfl Try.ntmps51 rfl (rs := _) rfl rfl fun E R => ?_
  simp only [fr, List.cons_append, List.nil_append]
  (apply sc_seq; apply sc_region; (apply so_box; (exact ev_); exact rfl; exact rfl; intro _); (apply so_ex; (apply ex_assign; ((exact Ev.const))); exact rfl); apply so_nil; apply nm_then; apply sc_seq; apply sc_region; (apply so_ex; (apply ex_makeFunc; ((focus ((apply EvL.cons; (exact ev_)); exact EvL.nil)))); exact rfl); (apply so_ex; (apply ex_assign; (exact ev_)); exact rfl); apply so_nil; apply nm_then; (apply sc_ret); (apply ret_ok; (focus ((apply Res.tmp; (exact ev_)); exact Res.nil)); ((rename_i B; exact ⟨B, rfl, rfl⟩)); (exact sel_); (exact appb_)))
theorem holders_tri {p m tb : Nat} {most : Int} {es : Array MapEntry} {c cap : Nat} {S : List Lk} {ts : List Tgt} {T : TypeId} (hM : MapOf encLock (lv S) es c) (hS : S.length ≤ 1000000) (hT : ts.length ≤ 1000000) (hw : ∀ k ∈ S, (Lit.int .i64 k.tx).wf = true) :
    Tri Try.prog 25 #[.pointer (some ⟨p, 0, none⟩), .slice (some ⟨tb, 0, none⟩) ts.length cap] (lBlk p m most es c ++ [(tb, .cells (tcells ts).toArray T)])
      (fun v L => ∃ fs, (∀ x, x ∈ fs ↔ ∃ k ∈ S, k.tx = x ∧ hits k ts = true) ∧ fs.Nodup ∧ SortedL fs (lBlk p m most es c ++ [(tb, .cells (tcells ts).toArray T)]) v L) := by
  have f_mixed := mixed; have f_by23 := by23; have f_en43 := en43; have f_en49 := en49; have f_en50 := en50; have f_en51 := en51; have f_fo79_1 := fo79_1; have f_fo82_0 := fo82_0; have f_fo82_1 := fo82_1; have f_ty23 := ty23; have f_ty3 := ty3; have f_ty4 := ty4; have f_ty46 := ty46; have f_ty77 := ty77; have f_ty82 := ty82; have f_un_30 : Und Try.prog 30 _ := ⟨Try.underlying30⟩; have f_un_46 : Und Try.prog 46 _ := ⟨Try.underlying46⟩; have f_un_77 : Und Try.prog 77 _ := ⟨Try.underlying77⟩; have f_un_88 : Und Try.prog 88 _ := ⟨Try.underlying88⟩; have f_zero23 := zero23; have f_zero4 := zero4; have f_zero82 := zero82; have f_zv23 := zv23; have f_zv4 := zv4
  have f_kl := KL82
  have f_kl3 := KL3
  refine tri_intro (args := [_, _]) Try.func25 rfl Try.ntmps25 rfl (rs := _) rfl rfl fun E R => ?_
  simp only [fr, lBlk, List.cons_append, List.nil_append]
  (apply sc_seq; apply sc_region; (apply so_ex; (apply ex_assign; ((exact Ev.const))); exact rfl); apply so_nil; apply nm_then; (apply sc_seq); apply sc_seq; apply sc_region; (apply so_ex; (apply ex_move; (exact ev_)); exact rfl); (apply so_ex; (apply ex_eqp_f; (exact ev_); ((exact Ev.const)); assumption); exact rfl); apply so_nil; apply nm_then; (apply sc_cond_false; (exact ev_)); (apply sc_skip); (apply nm_then); apply sc_seq; apply sc_region; (apply so_makeMap; exact rfl; intro _); (apply so_ex; (apply ex_assign; (exact ev_)); exact rfl); apply so_nil; apply nm_then; (apply sc_seq); apply sc_seq; apply sc_region; (apply so_ex; (apply ex_move; (exact ev_)); exact rfl); (apply so_ex; (apply ex_nilCheck; (exact ev_)); exact rfl); (apply so_ex; (apply ex_fieldAddr; (exact ev_); assumption); exact rfl); (apply so_ex; (apply ex_load1; (exact ev_); assumption; (exact mem_); (exact nth_)); exact rfl); (apply so_range; (exact ev_); (exact mem_); assumption; exact rfl; intro _); apply so_nil; apply nm_then; (apply sc_block))
  rename_i mf r
  refine sc_loop (fun q f L => ∃ seen vis es2 c2 fs, At f 1 (.slice (some ⟨tb, 0, none⟩) ts.length cap) ∧ At f 5 (.map (some mf)) ∧ At f 16 (.pointer (some ⟨r, 0, none⟩)) ∧ Iter encLock es c seen vis ∧ (∀ k ∈ vis, k ∈ S) ∧ MapOf (Value.int .i64) (fv fs) es2 c2 ∧ (∀ x, x ∈ fs ↔ ∃ k ∈ vis, k.tx = x ∧ hits k ts = true) ∧ q = (S.filter fun x => decide (x ∉ vis)).length ∧
    Held L [(r, .mapIter (some m) c seen c), (mf, .map es2 c2), (p, .cells [Value.int .i64 most, Value.map (some m)].toArray 79), (m, .map es c), (tb, .cells (tcells ts).toArray T)] R)
    _ ⟨#[], [], #[], 0, [], (by apply Ev.at; (exact ev_)), (by apply Ev.at; (exact ev_)), (by apply Ev.at; (exact ev_)), Iter.start hM, by simp, MapOf.empty, by simp, rfl, (by apply held; (exact sel_); (exact appb_))⟩ ?_
  rintro q f L ⟨seen, vis, es2, c2, fs, a1, a5, a16, hI, hsub, hF, hfs, hq, ⟨G, hG⟩⟩
  refine sc_perm hG ?_
  simp only [List.cons_append, List.nil_append]
  ((apply sc_seq); (apply sc_region))
  apply so_nxt; (exact ev_); (intro _; (focus (repeat (first | exact Turn.here | apply Turn.there)))); (exact mem_); assumption; assumption; (exact Nat.le_refl _); (exact encLock_inj); exact rfl
  · intro hall
    have hfs2 : ∀ x, x ∈ fs ↔ ∃ k ∈ S, k.tx = x ∧ hits k ts = true := fun x => by
      rw [hfs x]
      exact ⟨fun ⟨k, h1, h2⟩ => ⟨k, hsub k h1, h2⟩, fun ⟨k, h1, h2⟩ => ⟨k, hall (k, .bool true) (List.mem_map.2 ⟨k, h1, rfl⟩), h2⟩⟩
    have hfn : fs.Nodup := by
      have := hF.keys
      unfold fv at this
      simpa [Function.comp_def] using this
    have hfw : ∀ z ∈ fs, (Lit.int .i64 z).wf = true := fun z hz => by
      obtain ⟨k, h1, rfl, _⟩ := (hfs2 z).1 hz
      exact hw k h1
    have hfl : fs.length ≤ 1000000 := by
      have := nodup_len fs (S.map (·.tx)) hfn fun x hx => by
        obtain ⟨k, h1, rfl, _⟩ := (hfs2 x).1 hx
        exact List.mem_map.2 ⟨k, h1, rfl⟩
      simp at this
      omega
    clear hfs hsub hall hI
    ((apply so_ex; (apply ex_extract; (exact ev_); (exact nth_)); exact rfl); apply so_nil; apply nm_then; (apply sc_seq); (apply sc_cond_false; (exact ev_)); (apply sc_exit); (apply et_then); (apply et_then); (apply et_hit); (apply nm_then); apply sc_seq; apply sc_region; (apply so_ex; (apply ex_move; (exact ev_)); exact rfl))
    (apply so_call; (exact Ev.func); (focus ((apply EvL.cons; (exact ev_)); exact EvL.nil)); (focus (repeat (first | exact App.nil | apply App.cons))); assumption; (exact keys_tri mf); (exact sel_); exact rfl)
    rintro v L' ⟨B, rfl, rfl⟩
    simp only [List.cons_append, List.nil_append]
    skip
    (apply so_call; (exact Ev.func); (focus ((apply EvL.cons; (exact ev_)); exact EvL.nil)); (focus (repeat (first | exact App.nil | apply App.cons))); assumption; (exact sorted_tri (B := B) (b := mf) hF hfw hfl); (exact sel_); exact rfl)
    rintro v L' ⟨ys, hp, hs, ⟨hy, rfl, rfl⟩ | ⟨g, cap2, junk, rfl, rfl⟩⟩
    · simp only [List.cons_append, List.nil_append]
      ((apply so_ex; (apply ex_assign; (exact ev_)); exact rfl); apply so_nil; apply nm_then; (apply sc_ret))
      (apply ret_ok; (focus ((apply Res.tmp; (exact ev_)); exact Res.nil)); (exact ⟨fs, hfs2, hfn, ys, hp, hs, .inl ⟨hy, rfl, rfl⟩⟩); (exact sel_); (exact appb_))
    · simp only [List.cons_append, List.nil_append]
      ((apply so_ex; (apply ex_assign; (exact ev_)); exact rfl); apply so_nil; apply nm_then; (apply sc_ret))
      (apply ret_ok; (focus ((apply Res.tmp; (exact ev_)); exact Res.nil)); (exact ⟨fs, hfs2, hfn, ys, hp, hs, .inr ⟨g, cap2, junk, rfl, rfl⟩⟩); (exact sel_); (exact appb_))
  · rintro ⟨k1, v1⟩ seen' hp hnv hI' hcur
    obtain ⟨hkS, hv1⟩ := mem_lv hp
    simp only at hkS hv1 hnv hI' hcur
    subst hv1
    have hlt := unseen_lt hkS hnv
    obtain ⟨tx, kd, tbl, pg, sl⟩ := k1
    simp only [encLock] at hcur
    ((apply so_ex; (apply ex_extract; (exact ev_); (exact nth_)); exact rfl); apply so_nil; apply nm_then; (apply sc_seq); (apply sc_cond_true; (exact ev_)); (apply sc_skip); (apply nm_then); (apply sc_block); apply sc_seq; apply sc_region; (apply so_ex; (apply ex_ent; (exact ev_); (exact mem_); (exact mem_); assumption; assumption); exact rfl); (apply so_ex; (apply ex_extract; (exact ev_); (exact nth_)); exact rfl); (apply so_alloc; assumption; exact rfl; intro _); (apply so_store; (exact ev_); (exact ev_); assumption; exact rfl; exact rfl; exact rfl; (focus (repeat (first | exact Turn.here | apply Turn.there))); (focus (repeat (first | exact SetSub.nil | apply SetSub.take | apply SetSub.drop)))); apply so_nil; apply nm_then; apply sc_seq; apply sc_region; (apply so_ex; (apply ex_move; (exact ev_)); exact rfl); (apply so_ex; (apply ex_len_slice; (exact ev_); assumption); exact rfl); (apply so_ex; (apply ex_move; ((exact Ev.const))); exact rfl); apply so_nil; apply nm_then; (apply sc_block))
    rename_i b6
    refine sc_loop (fun q2 f L => ∃ (j : Nat) (es2 : Array MapEntry) (c2 : Nat) (fs2 : List Int), j ≤ ts.length ∧ q2 = ts.length - j ∧ At f 1 (.slice (some ⟨tb, 0, none⟩) ts.length cap) ∧ At f 5 (.map (some mf)) ∧ At f 6 (.pointer (some ⟨b6, 0, none⟩)) ∧ At f 16 (.pointer (some ⟨r, 0, none⟩)) ∧ At f 21 (.slice (some ⟨tb, 0, none⟩) ts.length cap) ∧ At f 22 (.int .i64 (ts.length : Int)) ∧ At f 23 (.int .i64 (j : Int)) ∧ MapOf (Value.int .i64) (fv fs2) es2 c2 ∧
      (∀ x, x ∈ fs2 ↔ (∃ k ∈ vis, k.tx = x ∧ hits k ts = true) ∨ (tx = x ∧ hits ⟨tx, ⟨kd, tbl, pg, sl⟩⟩ (ts.take j) = true)) ∧
      Held L [(b6, .cells [Value.int .i64 tx, .int .i64 kd, .int .i64 tbl, .int .i64 pg, .int .i64 sl].toArray 82), (r, .mapIter (some m) c seen' c), (mf, .map es2 c2), (p, .cells [Value.int .i64 most, Value.map (some m)].toArray 79), (m, .map es c), (tb, .cells (tcells ts).toArray T)] R)
      _ ⟨0, es2, c2, fs, Nat.zero_le _, rfl, (by apply Ev.at; (exact ev_)), (by apply Ev.at; (exact ev_)), (by apply Ev.at; (exact ev_)), (by apply Ev.at; (exact ev_)), (by apply Ev.at; (exact ev_)), (by apply Ev.at; (exact ev_)), (by apply Ev.at; (exact ev_)), hF, fun x => by rw [hfs x]; simp [hits], (by apply held; (exact sel_); (exact appb_))⟩ ?_
    clear hF hfs hG a1 a5 a16
    rintro q2 f L ⟨j, es2, c2, fs, hj, hq2, a1, a5, a6, a16, a21, a22, a23, hF, hfs, ⟨G, hG⟩⟩
    refine sc_perm hG ?_
    simp only [List.cons_append, List.nil_append]
    (apply sc_seq; apply sc_region; (apply so_split; (apply ex_lss; (exact ev_); (exact ev_)); exact rfl; refine ⟨fun _ => ?_, fun _ => ?_⟩); apply so_nil; apply nm_then; (apply sc_seq); (apply sc_cond_true; (exact ev_)); (apply sc_skip); (apply nm_then); (apply sc_seq); (apply sc_block); apply sc_seq; apply sc_region; (apply so_ex; (apply ex_indexAddr; (exact ev_); (exact ev_); assumption; assumption; (first | exact rfl | exact (rfl : (0:Int) = ((0:Nat):Int)) | exact (rfl : (1:Int) = ((1:Nat):Int)) | exact (rfl : (2:Int) = ((2:Nat):Int)) | assumption); (first | assumption | omega | decide)); exact rfl))
    · rename_i hlt2
      have hjl : j < ts.length := by omega
      have hld : ∀ q, q < [Value.int .i64 ts[j].kind, .int .i64 ts[j].table, .int .i64 ts[j].page, .int .i64 ts[j].slot].length → (tcells ts)[0 + j * 4 + q]? = [Value.int .i64 ts[j].kind, .int .i64 ts[j].table, .int .i64 ts[j].page, .int .i64 ts[j].slot][q]? := fun q hq => by
        rw [Nat.zero_add]
        exact tcells_get hjl q hq
      have htk := hits_take (k := ⟨tx, ⟨kd, tbl, pg, sl⟩⟩) hjl
      generalize ts[j] = t at hld htk
      obtain ⟨kd2, tbl2, pg2, sl2⟩ := t
      have hmt := may_tri kd2 tbl2 pg2 sl2
      have hct := covers_tri' kd tbl pg sl kd2 tbl2 pg2 sl2 _ rfl
      simp only at hld
      unfold hitT at htk
      cases hm : mayT ⟨kd2, tbl2, pg2, sl2⟩ with
      | false =>
        rw [hm] at hmt htk
        rw [Bool.false_and, Bool.or_false] at htk
        ((apply so_ex; (apply ex_loadNr (r := [Value.int .i64 kd2, .int .i64 tbl2, .int .i64 pg2, .int .i64 sl2]); (exact ev_); assumption; (exact mem_); exact rfl; exact hld); exact rfl); (apply so_alloc; assumption; exact rfl; intro _); (apply so_store; (exact ev_); (exact ev_); assumption; exact rfl; exact rfl; exact rfl; (focus (repeat (first | exact Turn.here | apply Turn.there))); (focus (repeat (first | exact SetSub.nil | apply SetSub.take | apply SetSub.drop)))); apply so_nil; apply nm_then; apply sc_seq; apply sc_region; (apply so_ex; (apply ex_loadN; (exact ev_); assumption; (exact mem_); (exact sub_)); exact rfl); (apply so_callq; (exact Ev.func); (focus ((apply EvL.cons; (exact ev_)); exact EvL.nil)); (focus (repeat (first | exact App.nil | apply App.cons))); assumption; exact hmt; (exact sel_); exact rfl); (apply so_ex; (apply ex_move; (exact ev_)); exact rfl); (apply so_skip; exact rfl; (exact ev_); exact rfl; exact rfl; exact rfl); (apply so_skip; exact rfl; (exact ev_); exact rfl; exact rfl; exact rfl); (apply so_skip; exact rfl; (exact ev_); exact rfl; exact rfl; exact rfl); (apply so_skip; exact rfl; (exact ev_); exact rfl; exact rfl; exact rfl); (apply so_ex; (apply ex_pick_f; (exact ev_); ((exact Ev.const))); exact rfl); apply so_nil; apply nm_then; (apply sc_cond_false; (exact ev_)); (apply sc_skip); (apply nm_block); (apply nm_then); (apply sc_region); (apply so_ex; (apply ex_add; (exact ev_); ((exact Ev.const)); (first | assumption | (apply wrap_in; unfold InI; omega) | exact rfl)); exact rfl); (apply so_ex; (apply ex_move; (exact ev_)); exact rfl); (apply so_nil); (apply nm_then))
        refine ⟨_, by rw [hq2]; omega, j + 1, es2, c2, fs, by omega, rfl, (by apply Ev.at; (exact ev_)), (by apply Ev.at; (exact ev_)), (by apply Ev.at; (exact ev_)), (by apply Ev.at; (exact ev_)), (by apply Ev.at; (exact ev_)), (by apply Ev.at; (exact ev_)), (by apply Ev.at; (exact ev_)), hF, fun x => by rw [hfs x, htk], (by apply held; (exact sel_); (exact appb_))⟩
      | true =>
        rw [hm] at hmt htk
        rw [Bool.true_and] at htk
        cases hc : coversT ⟨kd, tbl, pg, sl⟩ ⟨kd2, tbl2, pg2, sl2⟩ with
        | false =>
          rw [hc] at hct htk
          rw [Bool.or_false] at htk
          ((apply so_ex; (apply ex_loadNr (r := [Value.int .i64 kd2, .int .i64 tbl2, .int .i64 pg2, .int .i64 sl2]); (exact ev_); assumption; (exact mem_); exact rfl; exact hld); exact rfl); (apply so_alloc; assumption; exact rfl; intro _); (apply so_store; (exact ev_); (exact ev_); assumption; exact rfl; exact rfl; exact rfl; (focus (repeat (first | exact Turn.here | apply Turn.there))); (focus (repeat (first | exact SetSub.nil | apply SetSub.take | apply SetSub.drop)))); apply so_nil; apply nm_then; apply sc_seq; apply sc_region; (apply so_ex; (apply ex_loadN; (exact ev_); assumption; (exact mem_); (exact sub_)); exact rfl); (apply so_callq; (exact Ev.func); (focus ((apply EvL.cons; (exact ev_)); exact EvL.nil)); (focus (repeat (first | exact App.nil | apply App.cons))); assumption; exact hmt; (exact sel_); exact rfl); (apply so_ex; (apply ex_move; (exact ev_)); exact rfl); (apply so_want; exact rfl; (exact ev_); exact rfl; exact rfl); (apply so_ex; (apply ex_fieldAddr; (exact ev_); assumption); exact rfl); (apply so_want; exact rfl; (exact ev_); exact rfl; exact rfl); (apply so_ex; (apply ex_loadN; (exact ev_); assumption; (exact mem_); (exact sub_)); exact rfl); (apply so_want; exact rfl; (exact ev_); exact rfl; exact rfl); (apply so_ex; (apply ex_loadN; (exact ev_); assumption; (exact mem_); (exact sub_)); exact rfl); (apply so_want; exact rfl; (exact ev_); exact rfl; exact rfl); (apply so_callq; (exact Ev.func); (focus ((apply EvL.cons; (exact ev_)); (apply EvL.cons; (exact ev_)); exact EvL.nil)); (focus (repeat (first | exact App.nil | apply App.cons))); assumption; exact hct; (exact sel_); exact rfl); (apply so_ex; (apply ex_pick_t; (exact ev_); (exact ev_)); exact rfl); apply so_nil; apply nm_then; (apply sc_cond_false; (exact ev_)); (apply sc_skip); (apply nm_block); (apply nm_then); (apply sc_region); (apply so_ex; (apply ex_add; (exact ev_); ((exact Ev.const)); (first | assumption | (apply wrap_in; unfold InI; omega) | exact rfl)); exact rfl); (apply so_ex; (apply ex_move; (exact ev_)); exact rfl); (apply so_nil); (apply nm_then))
          refine ⟨_, by rw [hq2]; omega, j + 1, es2, c2, fs, by omega, rfl, (by apply Ev.at; (exact ev_)), (by apply Ev.at; (exact ev_)), (by apply Ev.at; (exact ev_)), (by apply Ev.at; (exact ev_)), (by apply Ev.at; (exact ev_)), (by apply Ev.at; (exact ev_)), (by apply Ev.at; (exact ev_)), hF, fun x => by rw [hfs x, htk], (by apply held; (exact sel_); (exact appb_))⟩
        | true =>
          rw [hc] at hct htk
          rw [Bool.or_true] at htk
          ((apply so_ex; (apply ex_loadNr (r := [Value.int .i64 kd2, .int .i64 tbl2, .int .i64 pg2, .int .i64 sl2]); (exact ev_); assumption; (exact mem_); exact rfl; exact hld); exact rfl); (apply so_alloc; assumption; exact rfl; intro _); (apply so_store; (exact ev_); (exact ev_); assumption; exact rfl; exact rfl; exact rfl; (focus (repeat (first | exact Turn.here | apply Turn.there))); (focus (repeat (first | exact SetSub.nil | apply SetSub.take | apply SetSub.drop)))); apply so_nil; apply nm_then; apply sc_seq; apply sc_region; (apply so_ex; (apply ex_loadN; (exact ev_); assumption; (exact mem_); (exact sub_)); exact rfl); (apply so_callq; (exact Ev.func); (focus ((apply EvL.cons; (exact ev_)); exact EvL.nil)); (focus (repeat (first | exact App.nil | apply App.cons))); assumption; exact hmt; (exact sel_); exact rfl); (apply so_ex; (apply ex_move; (exact ev_)); exact rfl); (apply so_want; exact rfl; (exact ev_); exact rfl; exact rfl); (apply so_ex; (apply ex_fieldAddr; (exact ev_); assumption); exact rfl); (apply so_want; exact rfl; (exact ev_); exact rfl; exact rfl); (apply so_ex; (apply ex_loadN; (exact ev_); assumption; (exact mem_); (exact sub_)); exact rfl); (apply so_want; exact rfl; (exact ev_); exact rfl; exact rfl); (apply so_ex; (apply ex_loadN; (exact ev_); assumption; (exact mem_); (exact sub_)); exact rfl); (apply so_want; exact rfl; (exact ev_); exact rfl; exact rfl); (apply so_callq; (exact Ev.func); (focus ((apply EvL.cons; (exact ev_)); (apply EvL.cons; (exact ev_)); exact EvL.nil)); (focus (repeat (first | exact App.nil | apply App.cons))); assumption; exact hct; (exact sel_); exact rfl); (apply so_ex; (apply ex_pick_t; (exact ev_); (exact ev_)); exact rfl); apply so_nil; apply nm_then; (apply sc_cond_true; (exact ev_)); (apply sc_region); (apply so_ex; (apply ex_move; (exact ev_)); exact rfl); (apply so_ex; (apply ex_fieldAddr; (exact ev_); assumption); exact rfl); (apply so_ex; (apply ex_load1; (exact ev_); assumption; (exact mem_); (exact nth_)); exact rfl); (apply so_mapUp; (exact ev_); (intro _ _; (focus (repeat (first | exact Turn.here | apply Turn.there)))); assumption; (exact ev_); (first | exact keyEq .. | exact rfl); (exact Ev.const); assumption; assumption; intro _ _ _); (apply so_nil); (apply nm_block); (apply nm_then); (apply sc_region); (apply so_ex; (apply ex_add; (exact ev_); ((exact Ev.const)); (first | assumption | (apply wrap_in; unfold InI; omega) | exact rfl)); exact rfl); (apply so_ex; (apply ex_move; (exact ev_)); exact rfl); (apply so_nil); (apply nm_then))
          rename_i es3 c3 hF3
          rw [putV_fv] at hF3
          refine ⟨_, by rw [hq2]; omega, j + 1, es3, c3, _, by omega, rfl, (by apply Ev.at; (exact ev_)), (by apply Ev.at; (exact ev_)), (by apply Ev.at; (exact ev_)), (by apply Ev.at; (exact ev_)), (by apply Ev.at; (exact ev_)), (by apply Ev.at; (exact ev_)), (by apply Ev.at; (exact ev_)), hF3, fun x => ?_, (by apply held; (exact sel_); (exact appb_))⟩
          rw [mem_putI, hfs x, htk]
          constructor
          · rintro ((h | ⟨h1, _⟩) | h)
            · exact .inl h
            · exact .inr ⟨h1, rfl⟩
            · exact .inr ⟨h, rfl⟩
          · rintro (h | ⟨h1, _⟩)
            · exact .inl (.inl h)
            · exact .inr h1
    · rename_i hge
      have ej : j = ts.length := by omega
      subst ej
      rw [List.take_length] at hfs
      (apply so_nil; apply nm_then; (apply sc_seq); (apply sc_cond_false; (exact ev_)); (apply sc_exit); (apply et_then); (apply et_then); (apply et_hit); (apply nm_block); (apply nm_then))
      refine ⟨_, by rw [hq]; exact hlt, seen', _, es2, c2, fs, (by apply Ev.at; (exact ev_)), (by apply Ev.at; (exact ev_)), (by apply Ev.at; (exact ev_)), hI', List.forall_mem_cons.2 ⟨hkS, hsub⟩, hF, fun x => ?_, rfl, (by apply held; (exact sel_); (exact appb_))⟩
      rw [hfs x]
      simp only [List.mem_cons, exists_eq_or_imp]
      exact or_comm
end Go.Proofs.Ytbpioemenmahaaa
