/- Locks: Ended. -/
import Derived.Test.YtbpioemenmahaaaQCa
import Derived.Test.YtbpioemenmahaaaFin
import Derived.Test.YtbpioemenmahaaaQShelf
set_option linter.unusedVariables false
set_option linter.unusedSimpArgs false
set_option linter.unnecessarySimpa false
namespace Go.Proofs.Ytbpioemenmahaaa
open Go.Sym

theorem ci_inj : ∀ a b : Int, Value.int .i64 a = .int .i64 b → a = b := fun a b h => by injection h
theorem sortNone_tri : Tri Try.prog 52 #[.slice none 0 0] [] fun v L => v = .tuple #[] ∧ L = [] := .mk fun E R w hh => (Try.slices_Sort_int_none none 0 w).mono fun e w' ⟨he, hw⟩ => ⟨_, _, he, ⟨rfl, rfl⟩, by rw [hw]; exact hh⟩
theorem wv_keys (ws : List (Int × Int)) : (wv ws).map (·.1) = ws.map (·.1) := by simp [wv, Function.comp_def]
theorem mem_wv {ws : List (Int × Int)} {q : Int × Value} (h : q ∈ wv ws) : ∃ o, q.2 = .int .i64 o ∧ (q.1, o) ∈ ws := by
  unfold wv at h
  obtain ⟨⟨a, b⟩, hp, rfl⟩ := List.mem_map.1 h
  exact ⟨b, rfl, hp⟩
theorem val_one {ws : List (Int × Int)} (hn : (ws.map (·.1)).Nodup) {x a b : Int} (h1 : (x, a) ∈ ws) (h2 : (x, b) ∈ ws) : a = b := (onW_of_mem hn h1).symm.trans (onW_of_mem hn h2)
/-- what Ended hands back: those that waited, in order -/
def EndPost (p : Nat) (ws : List (Int × Int)) (on : Int) (v : Value) (L : List Blk) : Prop :=
  ∃ L', WAt p (endW ws on) L' ∧ ((whoW ws on = [] ∧ v = .slice none 0 0 ∧ L = L') ∨ ∃ (nb cap : Nat) (zs : List Int) (junk : List Value), whoW ws on ≠ [] ∧ v = .slice (some ⟨nb, 0, none⟩) zs.length cap ∧ L = (nb, .cells (zs.map (Value.int .i64) ++ junk).toArray 3) :: L' ∧ (zs.map (Value.int .i64) ++ junk).length = cap ∧ zs.Perm (whoW ws on) ∧ zs.Pairwise (· ≤ ·))
/-- what is left after the first of those named are gone -/
def cutW (ws : List (Int × Int)) (zs : List Int) : List (Int × Int) := ws.filter fun p => !decide (p.1 ∈ zs)
theorem cutW_nil (ws : List (Int × Int)) : cutW ws [] = ws := List.filter_eq_self.2 fun _ _ => by simp
theorem cutW_del (ws : List (Int × Int)) (zs : List Int) (z : Int) : delW (cutW ws zs) z = cutW ws (zs ++ [z]) := by
  unfold delW cutW
  rw [List.filter_filter]
  apply List.filter_congr
  intro p _
  by_cases h1 : p.1 ∈ zs <;> by_cases h2 : p.1 = z <;> simp [h1, h2]
theorem cutW_end {ws : List (Int × Int)} {on : Int} {zs : List Int} (hn : (ws.map (·.1)).Nodup) (h : ∀ x, x ∈ zs ↔ (x, on) ∈ ws) : cutW ws zs = endW ws on := by
  unfold cutW endW
  apply List.filter_congr
  rintro ⟨a, b⟩ hp
  by_cases h1 : b = on
  · subst h1
    have := (h a).2 hp
    simp [this]
  · have : a ∉ zs := fun e => h1 (val_one hn hp ((h a).1 e))
    simp [this, h1]
theorem take_snoc {zs : List Int} {j : Nat} (h : j < zs.length) : zs.take (j + 1) = zs.take j ++ [zs[j]] := by
  rw [List.take_add_one, List.getElem?_eq_getElem h]; rfl
theorem ended_tri {p m : Nat} {es : Array MapEntry} {c : Nat} {ws : List (Int × Int)} (hM : MapOf (Value.int .i64) (wv ws) es c) (hS : ws.length ≤ 4096) (on : Int) :
    Tri Try.prog 28 #[.pointer (some ⟨p, 0, none⟩), .int .i64 on] (wBlk p m es c) (EndPost p ws on) := by
  have f_mixed := mixed; have f_by3 := by3; have f_en52 := en52; have f_fo87_0 := fo87_0; have f_ty3 := ty3; have f_ty49 := ty49; have f_ty85 := ty85; have f_un_39 : Und Try.prog 39 _ := ⟨Try.underlying39⟩; have f_un_49 : Und Try.prog 49 _ := ⟨Try.underlying49⟩; have f_un_85 : Und Try.prog 85 _ := ⟨Try.underlying85⟩; have f_zero3 := zero3; have f_zv3 := zv3
  have f_kl := KL3
  have hn : (ws.map (·.1)).Nodup := by have := hM.keys; rwa [wv_keys] at this
  refine tri_intro (args := [_, _]) Try.func28 rfl Try.ntmps28 rfl (rs := _) rfl rfl fun E R => ?_
  simp only [fr, wBlk, List.cons_append, List.nil_append]
  (apply sc_seq; apply sc_region; (apply so_ex; (apply ex_assign; ((exact Ev.const))); exact rfl); apply so_nil; apply nm_then; (apply sc_seq); apply sc_seq; apply sc_region; (apply so_ex; (apply ex_move; (exact ev_)); exact rfl); (apply so_ex; (apply ex_eqp_f; (exact ev_); ((exact Ev.const)); assumption); exact rfl); apply so_nil; apply nm_then; (apply sc_cond_false; (exact ev_)); (apply sc_skip); (apply nm_then); apply sc_seq; apply sc_region; (apply so_ex; (apply ex_assign; ((exact Ev.const))); exact rfl); apply so_nil; apply nm_then; (apply sc_seq); apply sc_seq; apply sc_region; (apply so_ex; (apply ex_move; (exact ev_)); exact rfl); (apply so_ex; (apply ex_nilCheck; (exact ev_)); exact rfl); (apply so_ex; (apply ex_fieldAddr; (exact ev_); assumption); exact rfl); (apply so_ex; (apply ex_load1; (exact ev_); assumption; (exact mem_); (exact nth_)); exact rfl); (apply so_range; (exact ev_); (exact mem_); assumption; exact rfl; intro _); apply so_nil; apply nm_then; (apply sc_block))
  rename_i r
  refine sc_loop (fun k f L => ∃ seen vis zs, At f 0 (.pointer (some ⟨p, 0, none⟩)) ∧ At f 1 (.int .i64 on) ∧ At f 16 (.pointer (some ⟨r, 0, none⟩)) ∧ Iter (Value.int .i64) es c seen vis ∧ vis.Nodup ∧ (∀ x ∈ vis, x ∈ ws.map (·.1)) ∧ zs.Nodup ∧ (∀ x, x ∈ zs ↔ x ∈ vis ∧ (x, on) ∈ ws) ∧ k = ((ws.map (·.1)).filter fun x => decide (x ∉ vis)).length ∧
    ((zs = [] ∧ At f 5 (.slice none 0 0) ∧ Held L [(r, .mapIter (some m) c seen c), (p, .cells [Value.map (some m)].toArray 87), (m, .map es c)] R) ∨
     ∃ b cap junk, zs ≠ [] ∧ At f 5 (.slice (some ⟨b, 0, none⟩) zs.length cap) ∧ (zs.map (Value.int .i64) ++ junk).length = cap * 1 ∧ Held L [(r, .mapIter (some m) c seen c), (b, .cells (zs.map (Value.int .i64) ++ junk).toArray 3), (p, .cells [Value.map (some m)].toArray 87), (m, .map es c)] R))
    _ ⟨#[], [], [], (by apply Ev.at; (exact ev_)), (by apply Ev.at; (exact ev_)), (by apply Ev.at; (exact ev_)), Iter.start hM, by simp, by simp, by simp, by simp, rfl, .inl ⟨rfl, (by apply Ev.at; (exact ev_)), (by apply held; (exact sel_); (exact appb_))⟩⟩ ?_
  rintro k f L ⟨seen, vis, zs, a0, a1, a16, hI, hnd, hsub, hzn, hzm, hk, ⟨hz0, a5, ⟨G, hG⟩⟩ | ⟨b, cap, junk, hz0, a5, hjl, ⟨G, hG⟩⟩⟩
  · refine sc_perm hG ?_
    simp only [List.cons_append, List.nil_append]
    ((apply sc_seq); (apply sc_region))
    apply so_nxt; (exact ev_); (intro _; (focus (repeat (first | exact Turn.here | apply Turn.there)))); (exact mem_); assumption; assumption; (exact Nat.le_refl _); (exact ci_inj); exact rfl
    · intro hall
      have hwho : ∀ x, (x, on) ∉ ws := fun x hx => by
        have h1 : (x, Value.int .i64 on) ∈ wv ws := List.mem_map.2 ⟨_, hx, rfl⟩
        have := (hzm x).2 ⟨hall _ h1, hx⟩
        rw [hz0] at this; cases this
      have hw0 : whoW ws on = [] := List.eq_nil_iff_forall_not_mem.2 fun x hx => hwho x (mem_whoW.1 hx)
      have he0 : endW ws on = ws := List.filter_eq_self.2 fun q hq => by
        obtain ⟨x, o⟩ := q
        have : o ≠ on := fun e => hwho x (e ▸ hq)
        simp [this]
      have hM2 : MapOf (Value.int .i64) (wv (endW ws on)) es c := by rw [he0]; exact hM
      clear hI hnd hsub hzn hzm hk hz0
      ((apply so_ex; (apply ex_extract; (exact ev_); (exact nth_)); exact rfl); apply so_nil; apply nm_then; (apply sc_seq); (apply sc_cond_false; (exact ev_)); (apply sc_exit); (apply et_then); (apply et_then); (apply et_hit); (apply nm_then); (apply sc_seq); apply sc_seq; apply sc_region; (apply so_ex; (apply ex_move; (exact ev_)); exact rfl); (apply so_ex; (apply ex_len_slice; (exact ev_); assumption); exact rfl); (apply so_ex; (apply ex_move; ((exact Ev.const))); exact rfl); apply so_nil; apply nm_then; (apply sc_block))
      refine sc_loop (fun _ f L => At f 5 (.slice none 0 0) ∧ At f 30 (.int .i64 0) ∧ At f 31 (.int .i64 0) ∧ Held L [(p, .cells [Value.map (some m)].toArray 87), (m, .map es c)] R) 0 ⟨(by apply Ev.at; (exact ev_)), (by apply Ev.at; (exact ev_)), (by apply Ev.at; (exact ev_)), (by apply held; (exact sel_); (exact appb_))⟩ ?_
      rintro k f L ⟨a5, a30, a31, ⟨G, hG⟩⟩
      refine sc_perm hG ?_
      simp only [List.cons_append, List.nil_append]
      (apply sc_seq; apply sc_region; (apply so_ex; (apply ex_lss_f; (exact ev_); (exact ev_); (first | assumption | omega)); exact rfl); apply so_nil; apply nm_then; (apply sc_seq); (apply sc_cond_false; (exact ev_)); (apply sc_exit); (apply et_then); (apply et_then); (apply et_hit); (apply nm_then); apply sc_seq; apply sc_region; (apply so_ex; (apply ex_move; (exact ev_)); exact rfl); (apply so_callq; (exact Ev.func); (focus ((apply EvL.cons; (exact ev_)); exact EvL.nil)); (focus (repeat (first | exact App.nil | apply App.cons))); assumption; exact sortNone_tri; (exact sel_); exact rfl); apply so_nil; apply nm_then; apply sc_seq; apply sc_region; (apply so_ex; (apply ex_move; (exact ev_)); exact rfl); (apply so_ex; (apply ex_assign; (exact ev_)); exact rfl); apply so_nil; apply nm_then; (apply sc_ret))
      (apply ret_ok; (focus ((apply Res.tmp; (exact ev_)); exact Res.nil)); (exact ⟨_, ⟨m, es, c, rfl, hM2⟩, .inl ⟨hw0, rfl, rfl⟩⟩); (exact sel_); (exact appb_))
    · rintro ⟨k1, v1⟩ seen' hp hnv hI' hcur
      obtain ⟨o, hv1, hko⟩ := mem_wv hp
      simp only at hnv hI' hcur hv1 hko
      subst hv1
      have hkm : k1 ∈ ws.map (·.1) := List.mem_map.2 ⟨_, hko, rfl⟩
      have hlt := unseen_lt hkm hnv
      ((apply so_ex; (apply ex_extract; (exact ev_); (exact nth_)); exact rfl); apply so_nil; apply nm_then; (apply sc_seq); (apply sc_cond_true; (exact ev_)); (apply sc_skip); (apply nm_then); (apply sc_block); apply sc_seq; apply sc_region; (apply so_ex; (apply ex_ent; (exact ev_); (exact mem_); (exact mem_); assumption; assumption); exact rfl); (apply so_ex; (apply ex_extract; (exact ev_); (exact nth_)); exact rfl); (apply so_ex; (apply ex_extract; (exact ev_); (exact nth_)); exact rfl); (apply so_ex; (apply ex_assign; (exact ev_)); exact rfl); (apply so_ex; (apply ex_assign; (exact ev_)); exact rfl); apply so_nil; apply nm_then; apply sc_seq; apply sc_region; (apply so_ex; (apply ex_move; (exact ev_)); exact rfl); (apply so_ex; (apply ex_move; (exact ev_)); exact rfl); (apply so_split; (apply ex_eql; (exact ev_); (exact ev_)); exact rfl; refine ⟨fun _ => ?_, fun _ => ?_⟩); apply so_nil; apply nm_then; (apply sc_cond_true; (exact ev_)); (apply sc_region); (apply so_ex; (apply ex_move; (exact ev_)); exact rfl); (apply so_ex; (apply ex_move; (exact ev_)); exact rfl); (apply so_buildS; (focus ((apply EvP.cons; (exact ev_)); exact EvP.nil)); assumption; assumption; assumption; (focus (repeat (first | exact SeqP.nil | (apply SeqP.cons; exact rfl; exact rfl) | exact App.nil | apply App.cons))); exact rfl; exact rfl; exact rfl; intro _); (apply so_app0; (exact ev_); (exact ev_); (exact mem_); assumption; assumption; assumption; exact rfl; assumption; exact rfl; exact rfl; (first | assumption | omega | decide); (first | assumption | omega | decide); exact rfl; exact rfl; exact rfl; intro _ _ _ _); (apply so_ex; (apply ex_assign; (exact ev_)); exact rfl); (apply so_nil); (apply nm_block); (apply nm_then))
      · rename_i heq _ b2 cap2 junk2 h2
        have heq' : o = on := heq
        subst heq'
        refine ⟨_, by rw [hk]; exact hlt, seen', k1 :: vis, [k1], (by apply Ev.at; (exact ev_)), (by apply Ev.at; (exact ev_)), (by apply Ev.at; (exact ev_)), hI', List.nodup_cons.2 ⟨hnv, hnd⟩, List.forall_mem_cons.2 ⟨hkm, hsub⟩, by simp, fun x => ?_, rfl, .inr ⟨b2, cap2, junk2, by simp, (by apply Ev.at; (exact ev_)), h2, (by apply held; (exact sel_); (exact appb_))⟩⟩
        have := hzm x
        rw [hz0] at this
        constructor
        · intro hx
          rw [List.mem_singleton.1 hx]
          exact ⟨List.mem_cons_self .., hko⟩
        · rintro ⟨hx, hxo⟩
          rcases List.mem_cons.1 hx with e | e
          · rw [e]; simp
          · exact absurd (this.2 ⟨e, hxo⟩) (by simp)
      · rename_i hne
        (apply so_nil; apply nm_then; (apply sc_cond_false; (exact ev_)); (apply sc_skip); (apply nm_block); (apply nm_then))
        refine ⟨_, by rw [hk]; exact hlt, seen', k1 :: vis, zs, (by apply Ev.at; (exact ev_)), (by apply Ev.at; (exact ev_)), (by apply Ev.at; (exact ev_)), hI', List.nodup_cons.2 ⟨hnv, hnd⟩, List.forall_mem_cons.2 ⟨hkm, hsub⟩, hzn, fun x => ?_, rfl, .inl ⟨hz0, (by apply Ev.at; (exact ev_)), (by apply held; (exact sel_); (exact appb_))⟩⟩
        rw [hzm x]
        constructor
        · rintro ⟨h1, h2⟩; exact ⟨List.mem_cons_of_mem _ h1, h2⟩
        · rintro ⟨h1, h2⟩
          rcases List.mem_cons.1 h1 with e | e
          · subst e; exact absurd (val_one hn hko h2) hne
          · exact ⟨e, h2⟩
  · refine sc_perm hG ?_
    simp only [List.cons_append, List.nil_append]
    have hxl : (zs.map (Value.int .i64)).length = zs.length * 1 := by simp
    have hbz : zs.length ≤ 4096 := by
      have h1 := nodup_len zs (ws.map (·.1)) hzn fun x hx => hsub x ((hzm x).1 hx).1
      simp at h1
      omega
    have hz2 : zs.length < 4611686018427387904 := by omega
    ((apply sc_seq); (apply sc_region))
    apply so_nxt; (exact ev_); (intro _; (focus (repeat (first | exact Turn.here | apply Turn.there)))); (exact mem_); assumption; assumption; (exact Nat.le_refl _); (exact ci_inj); exact rfl
    · intro hall
      have hzm2 : ∀ x, x ∈ zs ↔ (x, on) ∈ ws := fun x => ⟨fun h => ((hzm x).1 h).2, fun h => (hzm x).2 ⟨hall (x, .int .i64 on) (List.mem_map.2 ⟨_, h, rfl⟩), h⟩⟩
      clear hI hnd hsub hzm hk hall
      ((apply so_ex; (apply ex_extract; (exact ev_); (exact nth_)); exact rfl); apply so_nil; apply nm_then; (apply sc_seq); (apply sc_cond_false; (exact ev_)); (apply sc_exit); (apply et_then); (apply et_then); (apply et_hit); (apply nm_then); (apply sc_seq); apply sc_seq; apply sc_region; (apply so_ex; (apply ex_move; (exact ev_)); exact rfl); (apply so_ex; (apply ex_len_slice; (exact ev_); assumption); exact rfl); (apply so_ex; (apply ex_move; ((exact Ev.const))); exact rfl); apply so_nil; apply nm_then; (apply sc_block))
      refine sc_loop (fun k f L => ∃ (j : Nat) (es2 : Array MapEntry), j ≤ zs.length ∧ k = zs.length - j ∧ At f 0 (.pointer (some ⟨p, 0, none⟩)) ∧ At f 5 (.slice (some ⟨b, 0, none⟩) zs.length cap) ∧ At f 29 (.slice (some ⟨b, 0, none⟩) zs.length cap) ∧ At f 30 (.int .i64 (zs.length : Int)) ∧ At f 31 (.int .i64 (j : Int)) ∧
        MapOf (Value.int .i64) (wv (cutW ws (zs.take j))) es2 c ∧ Held L [(b, .cells (zs.map (Value.int .i64) ++ junk).toArray 3), (p, .cells [Value.map (some m)].toArray 87), (m, .map es2 c)] R)
        _ ⟨0, es, Nat.zero_le _, rfl, (by apply Ev.at; (exact ev_)), (by apply Ev.at; (exact ev_)), (by apply Ev.at; (exact ev_)), (by apply Ev.at; (exact ev_)), (by apply Ev.at; (exact ev_)), by rw [List.take_zero, cutW_nil]; exact hM, (by apply held; (exact sel_); (exact appb_))⟩ ?_
      rintro k f L ⟨j, es2, hj, hk, a0, a5, a29, a30, a31, hM2, ⟨G, hG⟩⟩
      refine sc_perm hG ?_
      simp only [List.cons_append, List.nil_append]
      (apply sc_seq; apply sc_region; (apply so_split; (apply ex_lss; (exact ev_); (exact ev_)); exact rfl; refine ⟨fun _ => ?_, fun _ => ?_⟩); apply so_nil; apply nm_then; (apply sc_seq); (apply sc_cond_true; (exact ev_)); (apply sc_skip); (apply nm_then); (apply sc_seq); (apply sc_block); apply sc_seq; apply sc_region; (apply so_ex; (apply ex_indexAddr; (exact ev_); (exact ev_); assumption; assumption; (first | exact rfl | exact (rfl : (0:Int) = ((0:Nat):Int)) | exact (rfl : (1:Int) = ((1:Nat):Int)) | exact (rfl : (2:Int) = ((2:Nat):Int)) | assumption); (first | assumption | omega | decide)); exact rfl))
      · rename_i hlt
        have hjl : j < zs.length := by omega
        have hA := getI (ja := junk) hjl
        ((apply so_ex; (apply ex_load1r; (exact ev_); assumption; (exact mem_); (simpa using hA)); exact rfl); (apply so_ex; (apply ex_assign; (exact ev_)); exact rfl); apply so_nil; apply nm_then; (apply sc_region); (apply so_ex; (apply ex_move; (exact ev_)); exact rfl); (apply so_ex; (apply ex_nilCheck; (exact ev_)); exact rfl); (apply so_ex; (apply ex_fieldAddr; (exact ev_); assumption); exact rfl); (apply so_ex; (apply ex_load1; (exact ev_); assumption; (exact mem_); (exact nth_)); exact rfl); (apply so_ex; (apply ex_move; (exact ev_)); exact rfl); (apply so_del; (exact ev_); (intro _ _; (focus (repeat (first | exact Turn.here | apply Turn.there)))); assumption; (exact ev_); (first | exact keyEq .. | exact rfl); assumption; assumption; intro _ _ _); (apply so_nil); (apply nm_block); (apply nm_then); (apply sc_region); (apply so_ex; (apply ex_add; (exact ev_); ((exact Ev.const)); (first | assumption | (apply wrap_in; unfold InI; omega) | exact rfl)); exact rfl); (apply so_ex; (apply ex_move; (exact ev_)); exact rfl); (apply so_nil); (apply nm_then))
        rename_i es3 hM3 hs3
        rw [delV_wv, cutW_del, ← take_snoc hjl] at hM3
        exact ⟨_, by rw [hk]; omega, j + 1, es3, by omega, rfl, (by apply Ev.at; (exact ev_)), (by apply Ev.at; (exact ev_)), (by apply Ev.at; (exact ev_)), (by apply Ev.at; (exact ev_)), (by apply Ev.at; (exact ev_)), hM3, (by apply held; (exact sel_); (exact appb_))⟩
      · rename_i hge
        have ej : j = zs.length := by omega
        subst ej
        rw [List.take_length, cutW_end hn hzm2] at hM2
        (apply so_nil; apply nm_then; (apply sc_seq); (apply sc_cond_false; (exact ev_)); (apply sc_exit); (apply et_then); (apply et_then); (apply et_hit); (apply nm_then); apply sc_seq; apply sc_region; (apply so_ex; (apply ex_move; (exact ev_)); exact rfl))
        (apply so_call; (exact Ev.func); (focus ((apply EvL.cons; (exact ev_)); exact EvL.nil)); (focus (repeat (first | exact App.nil | apply App.cons))); assumption; (exact sort_tri Try.slices_Sort_int hz2 (b := b) (cap := cap) (junk := junk) (et := 3)); (exact sel_); exact rfl)
        rintro v L' ⟨rfl, rfl⟩
        simp only [List.cons_append, List.nil_append]
        (apply so_nil; apply nm_then; apply sc_seq; apply sc_region; (apply so_ex; (apply ex_move; (exact ev_)); exact rfl); (apply so_ex; (apply ex_assign; (exact ev_)); exact rfl); apply so_nil; apply nm_then; (apply sc_ret))
        have hl : (zs.mergeSort fun x y => decide (x ≤ y)).length = zs.length := by simp
        have hperm : (zs.mergeSort fun x y => decide (x ≤ y)).Perm (whoW ws on) := (List.mergeSort_perm zs _).trans ((List.perm_ext_iff_of_nodup hzn (whoW_nodup on hn)).2 fun x => by rw [hzm2 x, mem_whoW])
        have hpw : (zs.mergeSort fun x y => decide (x ≤ y)).Pairwise (· ≤ ·) := by
          have := List.pairwise_mergeSort (le := fun (x y : Int) => decide (x ≤ y)) (fun a b c h1 h2 => by simp at *; omega) (fun a b => by simp; omega) zs
          exact this.imp fun h => by simpa using h
        have hlj : ((zs.mergeSort fun x y => decide (x ≤ y)).map (Value.int .i64) ++ junk).length = cap := by
          simp at hjl ⊢
          omega
        have hne : whoW ws on ≠ [] := fun e => by
          rw [e] at hperm
          have h1 := hperm.length_eq
          rw [hl] at h1
          exact hz0 (List.eq_nil_of_length_eq_zero h1)
        (apply ret_ok; (focus ((apply Res.tmp; (exact ev_)); exact Res.nil)); (exact ⟨_, ⟨m, es2, c, rfl, hM2⟩, .inr ⟨b, cap, zs.mergeSort fun x y => decide (x ≤ y), junk, hne, by rw [hl]; rfl, rfl, hlj, hperm, hpw⟩⟩); (exact sel_); (exact appb_))
    · rintro ⟨k1, v1⟩ seen' hp hnv hI' hcur
      obtain ⟨o, hv1, hko⟩ := mem_wv hp
      simp only at hnv hI' hcur hv1 hko
      subst hv1
      have hkm : k1 ∈ ws.map (·.1) := List.mem_map.2 ⟨_, hko, rfl⟩
      have hlt := unseen_lt hkm hnv
      have e1 : (zs ++ [k1]).length = zs.length + 1 := by simp
      have e2 : (zs ++ [k1]).map (Value.int .i64) = zs.map (Value.int .i64) ++ [Value.int .i64 k1] := by simp
      have hk1z : k1 ∉ zs := fun h => hnv ((hzm k1).1 h).1
      ((apply so_ex; (apply ex_extract; (exact ev_); (exact nth_)); exact rfl); apply so_nil; apply nm_then; (apply sc_seq); (apply sc_cond_true; (exact ev_)); (apply sc_skip); (apply nm_then); (apply sc_block); apply sc_seq; apply sc_region; (apply so_ex; (apply ex_ent; (exact ev_); (exact mem_); (exact mem_); assumption; assumption); exact rfl); (apply so_ex; (apply ex_extract; (exact ev_); (exact nth_)); exact rfl); (apply so_ex; (apply ex_extract; (exact ev_); (exact nth_)); exact rfl); (apply so_ex; (apply ex_assign; (exact ev_)); exact rfl); (apply so_ex; (apply ex_assign; (exact ev_)); exact rfl); apply so_nil; apply nm_then; apply sc_seq; apply sc_region; (apply so_ex; (apply ex_move; (exact ev_)); exact rfl); (apply so_ex; (apply ex_move; (exact ev_)); exact rfl); (apply so_split; (apply ex_eql; (exact ev_); (exact ev_)); exact rfl; refine ⟨fun _ => ?_, fun _ => ?_⟩); apply so_nil; apply nm_then; (apply sc_cond_true; (exact ev_)); (apply sc_region); (apply so_ex; (apply ex_move; (exact ev_)); exact rfl); (apply so_ex; (apply ex_move; (exact ev_)); exact rfl); (apply so_buildS; (focus ((apply EvP.cons; (exact ev_)); exact EvP.nil)); assumption; assumption; assumption; (focus (repeat (first | exact SeqP.nil | (apply SeqP.cons; exact rfl; exact rfl) | exact App.nil | apply App.cons))); exact rfl; exact rfl; exact rfl; intro _); (apply so_app1; (exact ev_); (exact ev_); (exact pick_); (exact mem_); assumption; assumption; assumption; assumption; assumption; exact rfl; assumption; exact rfl; exact rfl; (first | assumption | omega | decide); (first | assumption | omega | decide); exact rfl; exact rfl; exact rfl; intro _ _ _ _ _); (apply so_ex; (apply ex_assign; (exact ev_)); exact rfl); (apply so_nil); (apply nm_block); (apply nm_then))
      · rename_i heq _ b2 cap2 junk2 h2 h3
        have heq' : o = on := heq
        subst heq'
        refine ⟨_, by rw [hk]; exact hlt, seen', k1 :: vis, zs ++ [k1], (by apply Ev.at; (exact ev_)), (by apply Ev.at; (exact ev_)), (by apply Ev.at; (exact ev_)), hI', List.nodup_cons.2 ⟨hnv, hnd⟩, List.forall_mem_cons.2 ⟨hkm, hsub⟩, List.nodup_append.2 ⟨hzn, by simp, fun a ha b hb e => hk1z (by rw [← List.mem_singleton.1 hb, ← e]; exact ha)⟩, fun x => ?_, rfl, .inr ⟨b2, cap2, junk2, by simp, by rw [e1]; exact (by apply Ev.at; (exact ev_)), by rw [e2]; exact h2, by rw [e2]; exact (by apply held; (exact sel_); (exact appb_))⟩⟩
        rw [List.mem_append, hzm x, List.mem_singleton, List.mem_cons]
        constructor
        · rintro (⟨h1, h2⟩ | e)
          · exact ⟨.inr h1, h2⟩
          · rw [e]; exact ⟨.inl rfl, hko⟩
        · rintro ⟨e | h1, h2⟩
          · exact .inr e
          · exact .inl ⟨h1, h2⟩
      · rename_i hne
        (apply so_nil; apply nm_then; (apply sc_cond_false; (exact ev_)); (apply sc_skip); (apply nm_block); (apply nm_then))
        refine ⟨_, by rw [hk]; exact hlt, seen', k1 :: vis, zs, (by apply Ev.at; (exact ev_)), (by apply Ev.at; (exact ev_)), (by apply Ev.at; (exact ev_)), hI', List.nodup_cons.2 ⟨hnv, hnd⟩, List.forall_mem_cons.2 ⟨hkm, hsub⟩, hzn, fun x => ?_, rfl, .inr ⟨b, cap, junk, hz0, (by apply Ev.at; (exact ev_)), hjl, (by apply held; (exact sel_); (exact appb_))⟩⟩
        rw [hzm x]
        constructor
        · rintro ⟨h1, h2⟩; exact ⟨List.mem_cons_of_mem _ h1, h2⟩
        · rintro ⟨h1, h2⟩
          rcases List.mem_cons.1 h1 with e | e
          · subst e; exact absurd (val_one hn hko h2) hne
          · exact ⟨e, h2⟩
end Go.Proofs.Ytbpioemenmahaaa
