/- Txn: Xid. Txn: Back. Txn: End. -/
import Derived.Test.YtfkpjnomfmjplaaQB
set_option linter.unusedVariables false
set_option linter.unusedSimpArgs false
set_option linter.unnecessarySimpa false
namespace Go.Proofs.Ytfkpjnomfmjplaa
open Go.Sym
theorem beginAt_err {c : Clk} {n : Int} (h : c.beginE n ≠ 0) : c.beginAt n = c := by
  unfold Clk.beginE at h
  unfold Clk.beginAt
  by_cases h1 : c.bad n = true
  · rw [if_pos h1]
  · rw [if_neg h1] at h ⊢
    by_cases h2 : c.full = true
    · rw [if_pos h2]
    · rw [if_neg h2] at h; exact absurd rfl h
theorem SetSub.pre {l l' r : List Value} {k : Nat} (h : SetSub l k r l') : ∀ a : List Value, SetSub (a ++ l) (k + a.length) r (a ++ l')
  | [] => h
  | _ :: a => .drop (SetSub.pre h a)
theorem lc_set {s : ByteArray} {x y : Int} {done r : List (ByteArray × Int)} {junk : List Value} {i : Nat} (hi : i = done.length) : SetSub (lcells (done ++ (s, x) :: r) ++ junk) (0 + i * 2 + 1) [.int .i64 y] (lcells (done ++ (s, y) :: r) ++ junk) := by
  subst hi
  have hl := lcells_len done
  have e : ∀ z, lcells (done ++ (s, z) :: r) ++ junk = lcells done ++ (.string s :: .int .i64 z :: (lcells r ++ junk)) := fun z => by
    rw [lcells_app]
    show lcells done ++ ([.string s, .int .i64 z] ++ lcells r) ++ junk = _
    simp
  rw [e, e, show 0 + done.length * 2 + 1 = 1 + (lcells done).length by omega]
  exact SetSub.pre (.drop (.take .nil)) _
theorem xidL_len : ∀ (l : List (ByteArray × Int)) (c : Clk) (n : Int), (xidL c n l).2.length = l.length
  | [], _, _ => rfl
  | (s, x) :: r, c, n => by
    unfold xidL
    split
    · split
      · rfl
      · simp [xidL_len r]
    · simp [xidL_len r]
set_option maxHeartbeats 8000000 in
theorem xid_tri {K : Nat} {T : Ts} {tb : Nat} {L : List Blk} (h : TsIn K T tb L) (id : Int) : Tri Try.prog 18 #[tP tb, .int .i64 id] L fun v L' => (∃ n e, v = .tuple #[.int .i64 n, .int .i64 e]) ∧ TsIn K (T.xid id) tb L' := by
  obtain ⟨cb, mm, es, cl, ρ, rfl, hI⟩ := h
  have c1 : ∀ b2 b4, Tri Try.prog 45 #[tP tb, .int .i64 id, .func (.func 50) #[] [tP b2, tP b4].toArray] (TsB T tb cb mm es cl ρ ++ [(b4, .cells [.int .i64 0].toArray 3), (b2, .cells [tP tb].toArray 23)]) fun v L' => ∃ n e L2, v = .int .i64 e ∧ TsIn K (T.xid id) tb L2 ∧ L' = L2 ++ [(b4, .cells [.int .i64 n].toArray 3)] := by
    intro b2 b4
    refine run_triG hI id en50 _ (fun hr => ?_) (fun t PO hr hf hup hdn => ?_)
    · have e : T.xid id = T := by unfold Ts.xid; rw [hr]
      rw [e]
      refine ⟨TsB T tb cb mm es cl ρ ++ [(b4, .cells [.int .i64 0].toArray 3)], [(b2, .cells [tP tb].toArray 23)], by rw [List.append_assoc]; exact .refl _, 0, 41, _, rfl, ⟨cb, mm, es, cl, ρ, rfl, hI⟩, rfl⟩
    · have f_mixed := mixed; have f_by91 := by91; have f_en51 := en51; have f_fo91_1 := fo91_1; have f_fo80_0 := fo80_0; have f_fo80_2 := fo80_2; have f_fo74_0 := fo74_0; have f_ty91 := ty91; have f_ty23 := ty23; have f_ty3 := ty3; have f_ty53 := ty53; have f_ty77 := ty77; have f_un_77 : Und Try.prog 77 _ := ⟨Try.underlying77⟩; have f_zero91 := zero91; have f_zv91 := zv91
      have hid := (findT_some hf).2
      have htm := (findT_some hf).1
      have htx := hI.tx t htm
      rw [hid] at htx
      obtain ⟨b, lb, cap, junk, sp, SB, gv, GB, hm, hj, hne, hle⟩ := htx.open
      by_cases hro : bitsZ .and .i64 t.mode 4 ≠ 0
      · have e : T.xid id = T := by unfold Ts.xid; rw [hr]; dsimp only; rw [if_pos hro]
        rw [e]
        rw [hm] at hdn ⊢
        refine tri_intro (args := [_, _, _]) Try.func50 rfl Try.ntmps50 rfl (rs := _) rfl rfl fun E R => ?_
        simp only [fr, List.cons_append, List.nil_append]
        simp only [List.append_assoc, List.cons_append, List.nil_append] at hdn ⊢
        have hdn' := (hdn.symm.append_right [(b4, .cells [.int .i64 0].toArray 3)])
        simp only [List.append_assoc, List.cons_append, List.nil_append] at hdn'
        (refine sr_ ?_; (refine ac_ ?_); refine sn_ ?_; (apply sc_seq); refine sr_ ?_; (refine mv_ ?_); (refine se_ (ex_nilCheck ev_) ?_); (refine se_ (ex_fieldAddr ev_ asm_) ?_); (refine se_ (ex_load1 ev_ asm_ mem_ nth_) ?_); (apply so_ex; (apply ex_and; (exact ev_); ((exact Ev.const)); (first | assumption | exact rfl)); exact rfl); (refine se_ (ex_neq_t ev_ .const om_) ?_); refine sn_ ?_; (refine ct_ ?_); refine sr_ ?_; (refine ac_ ?_); refine sn_ ?_; (apply sc_ret); (apply rt_then); (apply ret_ok; (focus ((apply Res.tmp; (exact ev_)); exact Res.nil)); (exact ⟨_, hdn', _, _, _, rfl, ⟨cb, mm, es, cl, _, rfl, hI⟩, rfl⟩); (exact sel_); (exact appb_)))
      · have e : T.xid id = { T.upd id (fun u => { u with lvs := (xidL T.c 0 t.lvs).2 }) with c := (xidL T.c 0 t.lvs).1 } := by unfold Ts.xid; rw [hr]; dsimp only; rw [if_neg hro]
        have hro' : ¬ bitsZ .and .i64 t.mode 4 ≠ 0 := hro
        have hlen : ((xidL T.c 0 t.lvs).2).length = t.lvs.length := xidL_len _ _ _
        have hok : ∀ lF cF, lF.length = t.lvs.length → (lcells lF ++ junk).length = cap * 2 → ClkOk cF → TsOk K { T.upd id (fun u => { u with lvs := lF }) with c := cF } es cl (setρ ρ id ⟨b, sp, SB, .slice (some ⟨lb, 0, none⟩) lF.length cap, [(lb, .cells (lcells lF ++ junk).toArray 91)], gv, GB⟩) := fun lF cF h1 h2 h3 =>
          hI.set (K' := K) hf (f := fun t => { t with lvs := lF }) (fun _ => rfl) (m := ⟨b, sp, SB, .slice (some ⟨lb, 0, none⟩) lF.length cap, [(lb, .cells (lcells lF ++ junk).toArray 91)], gv, GB⟩) (by rw [hm]) ⟨by have := htx.sn; rw [hm] at this; exact this, ⟨by intro h; dsimp only at h; rw [h] at h1; exact hne (List.eq_nil_of_length_eq_zero h1.symm), by dsimp only; omega, lb, cap, junk, rfl, h2, rfl⟩, by have := htx.go; rw [hm] at this; exact this⟩ (Nat.le_refl _) (hI.gone t htm) h3
        have hp := fun lF cF => hup (fun t => { t with lvs := lF }) ⟨b, sp, SB, .slice (some ⟨lb, 0, none⟩) lF.length cap, [(lb, .cells (lcells lF ++ junk).toArray 91)], gv, GB⟩ cF hid
        unfold tblks at hp
        rw [e]
        rw [hm]
        unfold thdr at hp ⊢
        obtain ⟨tid, mode, snap, lvs, gone, failed, prep, nm⟩ := t
        dsimp only at *
        refine tri_intro (args := [_, _, _]) Try.func50 rfl Try.ntmps50 rfl (rs := _) rfl rfl fun E R => ?_
        simp only [fr, List.cons_append, List.nil_append]
        simp only [List.append_assoc, List.cons_append, List.nil_append] at hp ⊢
        (refine sr_ ?_; (refine ac_ ?_); refine sn_ ?_; (apply sc_seq); refine sr_ ?_; (refine mv_ ?_); (refine se_ (ex_nilCheck ev_) ?_); (refine se_ (ex_fieldAddr ev_ asm_) ?_); (refine se_ (ex_load1 ev_ asm_ mem_ nth_) ?_); (apply so_ex; (apply ex_and; (exact ev_); ((exact Ev.const)); (first | assumption | exact rfl)); exact rfl); (refine se_ (ex_neq_f ev_ .const om_) ?_); refine sn_ ?_; (refine cf_ ?_); (apply sc_skip); (apply nm_then); (apply sc_seq); refine sr_ ?_; (refine mv_ ?_); (refine se_ (ex_nilCheck ev_) ?_); (refine se_ (ex_fieldAddr ev_ asm_) ?_); (refine se_ (ex_load1 ev_ asm_ mem_ nth_) ?_); (refine se_ (ex_len_slice ev_ asm_) ?_); (refine se_ (ex_move .const) ?_); refine sn_ ?_; (apply sc_block))
        generalize hX : xidL T.c 0 lvs = X at e hlen ⊢
        refine sc_loop (fun k f L => ∃ (c : Clk) (n : Int) (done rest : List (ByteArray × Int)), k = rest.length ∧ done.length + rest.length = lvs.length ∧ (xidL c n rest).1 = X.1 ∧ done ++ (xidL c n rest).2 = X.2 ∧ ClkOk c ∧ (lcells (done ++ rest) ++ junk).length = cap * 2 ∧
          At f 0 (tP b) ∧ At f 1 (tP b2) ∧ At f 2 (tP b4) ∧ At f 19 (.int .i64 (lvs.length : Int)) ∧ At f 20 (.int .i64 (done.length : Int)) ∧ Held L (hdr T tb cb mm :: (mm, .map es cl) :: (b, .cells [Value.int .i64 mode, sp, .slice (some ⟨lb, 0, none⟩) lvs.length cap, gv, .bool failed, .bool prep, .string nm].toArray 80) :: cB cb c :: (b4, .cells [Value.int .i64 n].toArray 3) :: (b2, .cells [tP tb].toArray 23) :: (lb, .cells (lcells (done ++ rest) ++ junk).toArray 91) :: (SB ++ (GB ++ PO))) R)
          _ ⟨T.c, 0, [], lvs, rfl, by simp, by rw [hX], by rw [hX]; rfl, hI.ck, hj, at_, at_, at_, at_, at_, held_⟩ ?_
        rintro k f L ⟨c, n, done, rest, hk, hln, hx1, hx2, hck, hjj, a0, a1, a2, a19, a20, ⟨G, hG⟩⟩
        refine sc_perm hG ?_
        clear hG hX
        simp only [List.append_assoc, List.cons_append, List.nil_append]
        cases rest with
        | nil =>
          have hlt : ¬ (done.length : Int) < (lvs.length : Int) := by simp at hln; omega
          simp only [xidL, List.append_nil] at hx1 hx2 hjj ⊢
          have hok' := hok done c (by simp at hln; omega) hjj hck
          have hp' := (hp done c).append_right [(b4, .cells [Value.int .i64 n].toArray 3)]
          have hdl : done.length = lvs.length := by simp at hln; omega
          rw [hdl] at hok' hp'
          simp only [List.append_assoc, List.cons_append, List.nil_append] at hp'
          rw [← hx1, ← hx2]
          (refine sr_ ?_; (refine se_ (ex_lss_f ev_ ev_ om_) ?_); refine sn_ ?_; (apply sc_seq); (refine cf_ ?_); (apply sc_exit); (apply et_then); (apply et_then); (apply et_hit); (apply nm_then); refine sr_ ?_; (refine ac_ ?_); refine sn_ ?_; (apply sc_ret); (apply ret_ok; (focus ((apply Res.tmp; (exact ev_)); exact Res.nil)); (exact ⟨_, hp', _, _, _, rfl, ⟨cb, mm, es, cl, _, rfl, hok'⟩, rfl⟩); (exact sel_); (exact appb_)))
        | cons p r =>
          obtain ⟨s, x⟩ := p
          have hlt : (done.length : Int) < (lvs.length : Int) := by simp at hln; omega
          have hlt2 : done.length < lvs.length := by simp at hln; omega
          have e1 : ∀ q : ByteArray × Int, (((done ++ [q]).length : Nat) : Int) = (done.length : Int) + 1 := fun q => by simp
          have hk1 : ∀ y, (lcells (done ++ (s, y) :: r) ++ junk)[0 + done.length * 2 + 1]? = some (.int .i64 y) := fun y => by
            have := (lc_get (l := done ++ (s, y) :: r) (junk := junk) (i := done.length) (by simp)).2
            rw [Nat.zero_add]; simpa using this
          have happ : ∀ y, (done ++ [(s, y)]) ++ r = done ++ (s, y) :: r := fun y => by simp
          have hjl : ∀ y, (lcells (done ++ (s, y) :: r) ++ junk).length = cap * 2 := fun y => by
            rw [← hjj, List.length_append, List.length_append, lcells_len, lcells_len]; simp
          have hset := fun y => lc_set (s := s) (x := x) (y := y) (done := done) (r := r) (junk := junk) (i := done.length) rfl
          by_cases hx : x = 0
          · have hbt := begin_tri hck cb n
            have hbok := beginAt_ok hck n
            by_cases hbe : c.beginE n ≠ 0
            · have hba := beginAt_err hbe
              rw [hba] at hbt
              have hxl : xidL c n ((s, x) :: r) = (c, (s, x) :: r) := by simp only [xidL]; rw [if_pos hx, if_pos hbe]
              rw [hxl] at hx1 hx2
              dsimp only at hx1 hx2
              have hdl : (done ++ (s, x) :: r).length = lvs.length := by rw [List.length_append]; exact hln
              have hok' := hok (done ++ (s, x) :: r) c hdl hjj hck
              have hp' := (hp (done ++ (s, x) :: r) c).append_right [(b4, .cells [Value.int .i64 0].toArray 3)]
              rw [hdl] at hok' hp'
              simp only [List.append_assoc, List.cons_append, List.nil_append] at hp'
              rw [← hx1, ← hx2]
              (refine sr_ ?_; (refine se_ (ex_lss_t ev_ ev_ om_) ?_); refine sn_ ?_; (apply sc_seq); (refine ct_ ?_); (apply sc_skip); (apply nm_then); (apply sc_seq); (apply sc_block); refine sr_ ?_; (refine mv_ ?_); (refine asg_ ?_); refine sn_ ?_; (apply sc_seq); refine sr_ ?_; (refine mv_ ?_); (refine se_ (ex_nilCheck ev_) ?_); (refine se_ (ex_fieldAddr ev_ asm_) ?_); (refine se_ (ex_load1 ev_ asm_ mem_ nth_) ?_); (refine mv_ ?_); (refine se_ (ex_indexAddr ev_ ev_ asm_ asm_ lit_ lt_) ?_); (refine asg_ ?_); refine sn_ ?_; refine sr_ ?_; (refine mv_ ?_); (refine se_ (ex_nilCheck ev_) ?_); (refine se_ (ex_fieldAddr ev_ asm_) ?_); (apply so_ex; (apply ex_load1r; (exact ev_); assumption; (exact mem_); exact hk1 _); exact rfl); (refine se_ (ex_eql_t ev_ .const om_) ?_); refine sn_ ?_; (refine ct_ ?_); (apply sc_seq); (apply sc_any (id := 8) (vol := [cB cb c]); assumption; (exact sel_); exact rfl; exact rfl; (apply sa_take (i := 0); kernel_rfl; exact rfl; kernel_rfl; kernel_rfl; exact rfl; exact rfl; (exact sel_); (apply qo_ex; (apply ex_load1; (exact ev_); assumption; (exact mem_); (exact nth_))); apply sa_take (i := 1); kernel_rfl; exact rfl; kernel_rfl; kernel_rfl; exact rfl; exact rfl; (exact sel_); (apply qo_ex; (apply ex_nilCheck; (exact ev_))); apply sa_take (i := 2); kernel_rfl; exact rfl; kernel_rfl; kernel_rfl; exact rfl; exact rfl; (exact sel_); (apply qo_ex; (apply ex_fieldAddr; (exact ev_); assumption)); apply sa_take (i := 3); kernel_rfl; exact rfl; kernel_rfl; kernel_rfl; exact rfl; exact rfl; (exact sel_); (apply qo_ex; (apply ex_load1; (exact ev_); assumption; (exact mem_); (exact nth_))); apply sa_take (i := 4); kernel_rfl; exact rfl; kernel_rfl; kernel_rfl; exact rfl; exact rfl; (exact sel_); (apply qo_ex; (apply ex_load1; (exact ev_); assumption; (exact mem_); (exact nth_))); apply sa_one (i := 5); exact rfl; kernel_rfl; exact rfl; (((apply so_call; (exact Ev.func); (focus ((apply EvL.cons; (exact ev_)); (apply EvL.cons; (exact ev_)); exact EvL.nil)); (focus (repeat (first | exact App.nil | apply App.cons))); assumption; exact hbt; (exact sel_); exact rfl; rintro _ _ ⟨rfl, rfl⟩; simp only [List.append_assoc, List.cons_append, List.nil_append]))); apply sa_next; (exact sel_); apply sa_take (i := 6); kernel_rfl; exact rfl; kernel_rfl; kernel_rfl; exact rfl; exact rfl; (exact sel_); (apply qo_ex; (apply ex_move; (exact ev_))); apply sa_take (i := 7); kernel_rfl; exact rfl; kernel_rfl; kernel_rfl; exact rfl; exact rfl; (exact sel_); (apply qo_ex; (apply ex_extract; (exact ev_); (exact nth_))); apply sa_take (i := 8); kernel_rfl; exact rfl; kernel_rfl; kernel_rfl; exact rfl; exact rfl; (exact sel_); (apply qo_ex; (apply ex_extract; (exact ev_); (exact nth_))); apply sa_take (i := 9); kernel_rfl; exact rfl; kernel_rfl; kernel_rfl; exact rfl; exact rfl; (exact sel_); (apply qo_ex; (apply ex_assign; (exact ev_))); apply sa_take (i := 10); kernel_rfl; exact rfl; kernel_rfl; kernel_rfl; exact rfl; exact rfl; (exact sel_); (apply qo_ex; (apply ex_assign; (exact ev_))); (apply sa_done_then; kernel_rfl))); (apply sc_seq); refine sr_ ?_; (refine mv_ ?_); (refine se_ (ex_neq_t ev_ .const om_) ?_); refine sn_ ?_; (refine ct_ ?_); refine sr_ ?_; (apply so_store; (exact ev_); (exact Ev.const); assumption; exact rfl; exact rfl; exact rfl; (focus (repeat (first | exact Turn.here | apply Turn.there | apply Turn.pre))); (focus (repeat (first | exact SetSub.nil | apply SetSub.take | apply SetSub.drop)))); refine sn_ ?_; refine sr_ ?_; (refine mv_ ?_); (refine asg_ ?_); refine sn_ ?_; (apply sc_ret); (apply rt_then); (apply rt_then); (apply rt_block); (apply rt_then); (apply rt_then); (apply rt_block); (apply rt_then); (apply ret_ok; (focus ((apply Res.tmp; (exact ev_)); exact Res.nil)); (exact ⟨_, hp', _, _, _, rfl, ⟨cb, mm, es, cl, _, rfl, hok'⟩, rfl⟩); (exact sel_); (exact appb_)))
            · have hbe' : ¬ c.beginE n ≠ 0 := hbe
              have hxl : xidL c n ((s, x) :: r) = ((xidL (c.beginAt n) (c.beginX n) r).1, (s, c.beginX n) :: (xidL (c.beginAt n) (c.beginX n) r).2) := by conv => lhs; simp only [xidL]; rw [if_pos hx, if_neg hbe]
              rw [hxl] at hx1 hx2
              dsimp only at hx1 hx2
              generalize c.beginX n = y at hbt hx1 hx2
              generalize c.beginAt n = c' at hbt hx1 hx2 hbok
              (refine sr_ ?_; (refine se_ (ex_lss_t ev_ ev_ om_) ?_); refine sn_ ?_; (apply sc_seq); (refine ct_ ?_); (apply sc_skip); (apply nm_then); (apply sc_seq); (apply sc_block); refine sr_ ?_; (refine mv_ ?_); (refine asg_ ?_); refine sn_ ?_; (apply sc_seq); refine sr_ ?_; (refine mv_ ?_); (refine se_ (ex_nilCheck ev_) ?_); (refine se_ (ex_fieldAddr ev_ asm_) ?_); (refine se_ (ex_load1 ev_ asm_ mem_ nth_) ?_); (refine mv_ ?_); (refine se_ (ex_indexAddr ev_ ev_ asm_ asm_ lit_ lt_) ?_); (refine asg_ ?_); refine sn_ ?_; refine sr_ ?_; (refine mv_ ?_); (refine se_ (ex_nilCheck ev_) ?_); (refine se_ (ex_fieldAddr ev_ asm_) ?_); (apply so_ex; (apply ex_load1r; (exact ev_); assumption; (exact mem_); exact hk1 _); exact rfl); (refine se_ (ex_eql_t ev_ .const om_) ?_); refine sn_ ?_; (refine ct_ ?_); (apply sc_seq); (apply sc_any (id := 8) (vol := [cB cb c]); assumption; (exact sel_); exact rfl; exact rfl; (apply sa_take (i := 0); kernel_rfl; exact rfl; kernel_rfl; kernel_rfl; exact rfl; exact rfl; (exact sel_); (apply qo_ex; (apply ex_load1; (exact ev_); assumption; (exact mem_); (exact nth_))); apply sa_take (i := 1); kernel_rfl; exact rfl; kernel_rfl; kernel_rfl; exact rfl; exact rfl; (exact sel_); (apply qo_ex; (apply ex_nilCheck; (exact ev_))); apply sa_take (i := 2); kernel_rfl; exact rfl; kernel_rfl; kernel_rfl; exact rfl; exact rfl; (exact sel_); (apply qo_ex; (apply ex_fieldAddr; (exact ev_); assumption)); apply sa_take (i := 3); kernel_rfl; exact rfl; kernel_rfl; kernel_rfl; exact rfl; exact rfl; (exact sel_); (apply qo_ex; (apply ex_load1; (exact ev_); assumption; (exact mem_); (exact nth_))); apply sa_take (i := 4); kernel_rfl; exact rfl; kernel_rfl; kernel_rfl; exact rfl; exact rfl; (exact sel_); (apply qo_ex; (apply ex_load1; (exact ev_); assumption; (exact mem_); (exact nth_))); apply sa_one (i := 5); exact rfl; kernel_rfl; exact rfl; (((apply so_call; (exact Ev.func); (focus ((apply EvL.cons; (exact ev_)); (apply EvL.cons; (exact ev_)); exact EvL.nil)); (focus (repeat (first | exact App.nil | apply App.cons))); assumption; exact hbt; (exact sel_); exact rfl; rintro _ _ ⟨rfl, rfl⟩; simp only [List.append_assoc, List.cons_append, List.nil_append]))); apply sa_next; (exact sel_); apply sa_take (i := 6); kernel_rfl; exact rfl; kernel_rfl; kernel_rfl; exact rfl; exact rfl; (exact sel_); (apply qo_ex; (apply ex_move; (exact ev_))); apply sa_take (i := 7); kernel_rfl; exact rfl; kernel_rfl; kernel_rfl; exact rfl; exact rfl; (exact sel_); (apply qo_ex; (apply ex_extract; (exact ev_); (exact nth_))); apply sa_take (i := 8); kernel_rfl; exact rfl; kernel_rfl; kernel_rfl; exact rfl; exact rfl; (exact sel_); (apply qo_ex; (apply ex_extract; (exact ev_); (exact nth_))); apply sa_take (i := 9); kernel_rfl; exact rfl; kernel_rfl; kernel_rfl; exact rfl; exact rfl; (exact sel_); (apply qo_ex; (apply ex_assign; (exact ev_))); apply sa_take (i := 10); kernel_rfl; exact rfl; kernel_rfl; kernel_rfl; exact rfl; exact rfl; (exact sel_); (apply qo_ex; (apply ex_assign; (exact ev_))); (apply sa_done_then; kernel_rfl))); (apply sc_seq); refine sr_ ?_; (refine mv_ ?_); (refine se_ (ex_neq_f ev_ .const om_) ?_); refine sn_ ?_; (refine cf_ ?_); (apply sc_skip); (apply nm_then); (apply sc_region); (refine mv_ ?_); (refine mv_ ?_); (refine se_ (ex_nilCheck ev_) ?_); (refine se_ (ex_fieldAddr ev_ asm_) ?_); (apply so_store; (exact ev_); (exact ev_); assumption; exact rfl; exact rfl; exact rfl; (focus (repeat (first | exact Turn.here | apply Turn.there | apply Turn.pre))); exact hset _); refine sn_ ?_; (apply sc_region); (refine mv_ ?_); (refine se_ (ex_nilCheck ev_) ?_); (refine se_ (ex_fieldAddr ev_ asm_) ?_); (refine se_ (ex_load1 ev_ asm_ mem_ nth_) ?_); (refine mv_ ?_); (refine se_ (ex_indexAddr ev_ ev_ asm_ asm_ lit_ lt_) ?_); (refine se_ (ex_fieldAddr ev_ asm_) ?_); (apply so_ex; (apply ex_load1r; (exact ev_); assumption; (exact mem_); exact hk1 _); exact rfl); (apply so_store; (exact ev_); (exact ev_); assumption; exact rfl; exact rfl; exact rfl; (focus (repeat (first | exact Turn.here | apply Turn.there | apply Turn.pre))); (focus (repeat (first | exact SetSub.nil | apply SetSub.take | apply SetSub.drop)))); (apply so_nil); (apply nm_block); (apply nm_then); (apply sc_region); (refine se_ (ex_add ev_ .const wr_) ?_); (refine mv_ ?_); (apply so_nil); (apply nm_then))
              exact ⟨r.length, by rw [hk]; simp, c', y, done ++ [(s, y)], r, rfl, by simp at hln ⊢; omega, hx1, by rw [← hx2]; simp, hbok, by rw [happ]; exact hjl y, at_, at_, at_, at_, by rw [e1]; exact at_, by rw [happ]; exact held_⟩
          · have hxl : xidL c n ((s, x) :: r) = ((xidL c x r).1, (s, x) :: (xidL c x r).2) := by conv => lhs; simp only [xidL]; rw [if_neg hx]
            rw [hxl] at hx1 hx2
            dsimp only at hx1 hx2
            (refine sr_ ?_; (refine se_ (ex_lss_t ev_ ev_ om_) ?_); refine sn_ ?_; (apply sc_seq); (refine ct_ ?_); (apply sc_skip); (apply nm_then); (apply sc_seq); (apply sc_block); refine sr_ ?_; (refine mv_ ?_); (refine asg_ ?_); refine sn_ ?_; (apply sc_seq); refine sr_ ?_; (refine mv_ ?_); (refine se_ (ex_nilCheck ev_) ?_); (refine se_ (ex_fieldAddr ev_ asm_) ?_); (refine se_ (ex_load1 ev_ asm_ mem_ nth_) ?_); (refine mv_ ?_); (refine se_ (ex_indexAddr ev_ ev_ asm_ asm_ lit_ lt_) ?_); (refine asg_ ?_); refine sn_ ?_; refine sr_ ?_; (refine mv_ ?_); (refine se_ (ex_nilCheck ev_) ?_); (refine se_ (ex_fieldAddr ev_ asm_) ?_); (apply so_ex; (apply ex_load1r; (exact ev_); assumption; (exact mem_); exact hk1 _); exact rfl); (refine se_ (ex_eql_f ev_ .const om_) ?_); refine sn_ ?_; (refine cf_ ?_); (apply sc_skip); (apply nm_then); (apply sc_region); (refine mv_ ?_); (refine se_ (ex_nilCheck ev_) ?_); (refine se_ (ex_fieldAddr ev_ asm_) ?_); (refine se_ (ex_load1 ev_ asm_ mem_ nth_) ?_); (refine mv_ ?_); (refine se_ (ex_indexAddr ev_ ev_ asm_ asm_ lit_ lt_) ?_); (refine se_ (ex_fieldAddr ev_ asm_) ?_); (apply so_ex; (apply ex_load1r; (exact ev_); assumption; (exact mem_); exact hk1 _); exact rfl); (apply so_store; (exact ev_); (exact ev_); assumption; exact rfl; exact rfl; exact rfl; (focus (repeat (first | exact Turn.here | apply Turn.there | apply Turn.pre))); (focus (repeat (first | exact SetSub.nil | apply SetSub.take | apply SetSub.drop)))); (apply so_nil); (apply nm_block); (apply nm_then); (apply sc_region); (refine se_ (ex_add ev_ .const wr_) ?_); (refine mv_ ?_); (apply so_nil); (apply nm_then))
            exact ⟨r.length, by rw [hk]; simp, c, x, done ++ [(s, x)], r, rfl, by simp at hln ⊢; omega, hx1, by rw [← hx2]; simp, hck, by rw [happ]; exact hjl x, at_, at_, at_, at_, by rw [e1]; exact at_, by rw [happ]; exact held_⟩
  have f_mixed := mixed; have f_en45 := en45; have f_en50 := en50; have f_ty23 := ty23; have f_ty3 := ty3; have f_zero3 := zero3
  refine tri_intro (args := [_, _]) Try.func18 rfl Try.ntmps18 rfl (rs := _) rfl rfl fun E R => ?_
  simp only [fr, List.cons_append, List.nil_append]
  (refine sr_ ?_; (apply so_box; (exact ev_); exact rfl; exact rfl; intro _); (apply so_alloc; assumption; exact rfl; intro _); (refine ac_ ?_); refine sn_ ?_; refine sr_ ?_; (refine se_ (ex_load1 ev_ asm_ mem_ nth_) ?_); (refine mv_ ?_); (apply so_ex; (apply ex_makeFunc; ((focus ((apply EvL.cons; (exact ev_)); (apply EvL.cons; (exact ev_)); exact EvL.nil)))); exact rfl))
  rename_i b2 b4
  have c2 := c1 b2 b4
  (apply so_call; (exact Ev.func); (focus ((apply EvL.cons; (exact ev_)); (apply EvL.cons; (exact ev_)); (apply EvL.cons; (exact ev_)); exact EvL.nil)); (focus (repeat (first | exact App.nil | apply App.cons))); assumption; (exact c2); (exact sel_); exact rfl)
  rintro v L ⟨n, e, L2, rfl, hL, rfl⟩
  simp only [List.append_assoc, List.cons_append, List.nil_append]
  ((refine asg_ ?_); refine sn_ ?_; refine sr_ ?_; (refine se_ (ex_load1 ev_ asm_ mem_ nth_) ?_); (refine mv_ ?_); (apply so_store; (exact ev_); (exact ev_); assumption; exact rfl; exact rfl; exact rfl; (focus (repeat (first | exact Turn.here | apply Turn.there | apply Turn.pre))); (focus (repeat (first | exact SetSub.nil | apply SetSub.take | apply SetSub.drop)))); (refine asg_ ?_); refine sn_ ?_; (apply sc_ret); (apply ret_ok; (focus ((apply Res.one; (exact ev_); assumption; (exact mem_); (exact nth_)); (apply Res.tmp; (exact ev_)); exact Res.nil)); (exact ⟨⟨_, _, rfl⟩, hL⟩); (exact sel_); (exact appb_)))
end Go.Proofs.Ytfkpjnomfmjplaa
namespace Go.Sym
open Go
section
variable {P : Program} {E : Env} {f : Nat → Value} {L : List Blk} {ty : TypeId} {pos : String} {after : Array Edge} {d : Nat} {x y : Operand} {t et yt : TypeId} {ag : Bool} {s len cap k : Nat} {p : Option Addr} {b : Nat}
theorem ex_sliceTo (hx : Ev f x (.slice (some ⟨b, 0, none⟩) len cap)) (hy : Ev f y (.int .i64 (k : Int))) (ht : Und P t (.slice et)) (hT : tyOf P et = some (ag, s)) (hk : k ≤ cap) :
    Ex P E f L ⟨some d, .slice t x none (some y) none, ty, pos, after, none⟩ (.slice (some ⟨b, 0, none⟩) k cap) := .mk fun w hw => by
  have h1 := run_sizeT (P := P) (w := w) hT
  have h2 : (0 : Int) ≤ (k : Int) ∧ (k : Int) ≤ (cap : Int) := by omega
  simp only [execOp, Option.map_none, Option.map_some, hx.eq, hy.eq]
  simp [Instr.sliceAt, Instr.slice, Instr.sliceBounds, Instr.sliceBound, asIntOf, run_underlying ht.eq, h1, hk, add_none]
theorem ex_sliceFrom (hx : Ev f x (.slice (some ⟨b, 0, none⟩) len cap)) (hy : Ev f y (.int .i64 (k : Int))) (ht : Und P t (.slice et)) (hT : tyOf P et = some (ag, s)) (hk : k < len) (hc : len ≤ cap) :
    Ex P E f L ⟨some d, .slice t x (some y) none none, ty, pos, after, none⟩ (.slice (some ⟨b, 0 + k * s, none⟩) (len - k) (cap - k)) := .mk fun w hw => by
  have h1 := run_sizeT (P := P) (w := w) hT
  have h3 : ¬ cap = k := by omega
  have hk' : k ≤ len := by omega
  simp only [execOp, Option.map_none, Option.map_some, hx.eq, hy.eq]
  simp [Instr.sliceAt, Instr.slice, Instr.sliceBounds, Instr.sliceBound, asIntOf, run_underlying ht.eq, h1, hk', hc, add_none, h3]
end
end Go.Sym
namespace Go.Proofs.Ytfkpjnomfmjplaa
open Go.Sym
section
variable {P : Program} {E : Env} {f : Nat → Value} {L : List Blk} {ty : TypeId} {pos : String} {after : Array Edge} {d : Nat} {x y : Operand} {xt yt : TypeId} {a b : ByteArray} {r : Bool}
theorem ex_nestr (hx : Ev f x (.string a)) (hy : Ev f y (.string b)) (hr : sameS a b = r) : Ex P E f L ⟨some d, .binOp .neq xt x y yt, ty, pos, after, none⟩ (.bool (!r)) := .mk fun w _ => by
  unfold sameS at hr
  simp [execOp, hx.eq, hy.eq, eqGuard, binOp, Op.stringOp, hr]
end
theorem lcells_take (l : List (ByteArray × Int)) (k : Nat) : (lcells l).take (k * 2) = lcells (l.take k) := by
  induction l generalizing k with
  | nil => simp [lcells]
  | cons p l ih =>
    cases k with
    | zero => simp [lcells]
    | succ k =>
      have := ih k
      rw [show (k + 1) * 2 = k * 2 + 2 by omega]
      unfold lcells at *
      simp only [List.flatMap_cons, List.take_succ_cons, List.cons_append, List.nil_append]
      rw [this]
theorem lc_one (l : List (ByteArray × Int)) : (lcells l).all (·.oneCell') = true := by
  unfold lcells
  rw [List.all_eq_true]
  intro v hv
  obtain ⟨x, _, h⟩ := List.mem_flatMap.1 hv
  simp only [List.mem_cons, List.not_mem_nil, or_false] at h
  rcases h with rfl | rfl <;> rfl
theorem cloneL_tri {l : List (ByteArray × Int)} {junk : List Value} {lb cap k : Nat} (hk : k ≤ l.length) (hk9 : k ≤ 9) : Tri Try.prog 49 #[.slice (some ⟨lb, 0, none⟩) k cap] [(lb, .cells (lcells l ++ junk).toArray 91)] fun v L => ∃ p' cap' B', v = .slice p' k cap' ∧ Row 91 2 (.slice p' k cap') (lcells (l.take k)) B' ∧ L = B' ++ [(lb, .cells (lcells l ++ junk).toArray 91)] := by
  have f_mixed := mixed; have f_by91 := by91; have f_ty77 := ty77; have f_ty91 := ty91; have f_un_77 : Und Try.prog 77 _ := ⟨Try.underlying77⟩; have f_zero91 := zero91; have f_zv91 := zv91
  have hll : (lcells (l.take k)).length = k * 2 := by rw [lcells_len, List.length_take, Nat.min_eq_left hk]
  have hbb : (0 + k) * 24 ≤ 140737488355328 := by omega
  have hbb2 : 0 + k ≤ 9223372036854775807 := by omega
  have hyc : ∀ j, j < (lcells (l.take k)).length → (lcells l ++ junk)[0 + j]? = (lcells (l.take k))[j]? := fun j hj => by
    rw [hll] at hj
    rw [Nat.zero_add, ← lcells_take, List.getElem?_take_of_lt hj, List.getElem?_append_left (by rw [lcells_len]; omega)]
  have hone := lc_one (l.take k)
  refine tri_intro (args := [_]) Try.func49 rfl Try.ntmps49 rfl (rs := _) rfl rfl fun E R => ?_
  simp only [fr, List.cons_append, List.nil_append]
  (refine sr_ ?_; (refine ac_ ?_); refine sn_ ?_; (apply sc_seq); refine sr_ ?_; (refine mv_ ?_); (refine se_ (ex_eqs_f ev_ .const asm_) ?_); refine sn_ ?_; (refine cf_ ?_); (apply sc_skip); (apply nm_then); refine sr_ ?_; (apply so_buildS; (focus (exact EvP.nil)); assumption; assumption; assumption; (focus (repeat (first | exact SeqP.nil | (apply SeqP.cons; exact rfl; exact rfl) | exact App.nil | apply App.cons))); exact rfl; exact rfl; exact rfl; intro _); (refine mv_ ?_); (apply so_appR (et := 91) (s := 2) (xs := []) (ys := lcells (l.take k)); (exact ev_); (exact ev_); exact (Row.row (junk := []) rfl rfl); (exact sel_); (exact mem_); exact hll; exact hyc; assumption; assumption; assumption; exact rfl; assumption; exact hbb; exact hbb2; exact rfl; exact hone; exact rfl; intro p' cap' H' hrow'); (refine asg_ ?_); refine sn_ ?_; (apply sc_ret))
  rw [Nat.zero_add, List.nil_append] at hrow'
  simp only [Nat.zero_add]
  (apply ret_ok; (focus ((apply Res.tmp; (exact ev_)); exact Res.nil)); (exact ⟨_, _, _, rfl, hrow', rfl⟩); (exact sel_); (exact appb_))
theorem backAt_le (l : List (ByteArray × Int)) (s : ByteArray) : ∀ k, backAt l s k ≤ k
  | 0 => Nat.le_refl _
  | k + 1 => by
    unfold backAt; split
    · exact Nat.le_refl _
    · exact Nat.le_succ_of_le (backAt_le l s k)
/-- Back carries it out, and hands gl out -/
def BackOk (T : Ts) (id : Int) (s : ByteArray) (gl : List Int) : Prop := ∃ t k, T.runs id = some t ∧ backAt t.lvs s (t.lvs.length - 1) = k + 1 ∧ gl = xidsOf (t.lvs.drop (k + 1))
def BackR (T : Ts) (id : Int) (s : ByteArray) (e : Int) (sv : Value) (B : List Blk) : Prop := (∀ gl, BackOk T id s gl → e = 0 ∧ SlI gl sv B) ∧ (T.runs id = none → e = 41)
theorem BackR.no {T : Ts} {id : Int} {s : ByteArray} {sv : Value} {B : List Blk} (hr : T.runs id = none) : BackR T id s 41 sv B := ⟨fun _ ⟨_, _, h, _⟩ => by rw [hr] at h; (cases h), fun _ => rfl⟩
theorem BackR.zero {T : Ts} {id : Int} {s : ByteArray} {e : Int} {sv : Value} {B : List Blk} {t : Tx} (hr : T.runs id = some t) (hk : backAt t.lvs s (t.lvs.length - 1) = 0) : BackR T id s e sv B := ⟨fun _ ⟨_, _, h, h2, _⟩ => by rw [hr] at h; cases h; rw [hk] at h2; (cases h2), fun h => by rw [hr] at h; cases h⟩
theorem BackR.ok {T : Ts} {id : Int} {s : ByteArray} {sv : Value} {B : List Blk} {t : Tx} {k : Nat} (hr : T.runs id = some t) (hk : backAt t.lvs s (t.lvs.length - 1) = k + 1) (h : SlI (xidsOf (t.lvs.drop (k + 1))) sv B) : BackR T id s 0 sv B := ⟨fun gl ⟨_, _, h1, h2, h3⟩ => by rw [hr] at h1; cases h1; rw [hk] at h2; cases h2; rw [h3]; exact ⟨rfl, h⟩, fun h => by rw [hr] at h; cases h⟩
set_option maxHeartbeats 8000000 in
theorem back_tri {K : Nat} {T : Ts} {tb : Nat} {L : List Blk} (h : TsIn K T tb L) (hK : K ≤ 1000000) (id : Int) (s : ByteArray) : Tri Try.prog 17 #[tP tb, .int .i64 id, .string s] L fun v L' => ∃ p n cap e Bg L2, v = .tuple #[.slice p n cap, .int .i64 e] ∧ BackR T id s e (.slice p n cap) Bg ∧ TsIn (K + 9) (T.back id s) tb L2 ∧ L' = L2 ++ Bg := by
  obtain ⟨cb, mm, es, cl, ρ, rfl, hI⟩ := h
  have c1 : ∀ b3 b5 b6, Tri Try.prog 45 #[tP tb, .int .i64 id, .func (.func 48) #[] [tP b5, tP b6, tP b3].toArray] (TsB T tb cb mm es cl ρ ++ [(b6, .cells [.slice none 0 0].toArray 36), (b5, .cells [.string s].toArray 9), (b3, .cells [tP tb].toArray 23)]) fun v L' => ∃ p n cap e Bg L2, v = .int .i64 e ∧ BackR T id s e (.slice p n cap) Bg ∧ TsIn (K + 9) (T.back id s) tb L2 ∧ L' = L2 ++ ((b6, .cells [.slice p n cap].toArray 36) :: Bg) := by
    intro b3 b5 b6
    refine run_triG hI id en48 _ (fun hr => ?_) (fun t PO hr hf hup hdn => ?_)
    · have e : T.back id s = T := by unfold Ts.back; rw [hr]
      rw [e]
      refine ⟨TsB T tb cb mm es cl ρ ++ [(b6, .cells [.slice none 0 0].toArray 36)], [(b5, .cells [.string s].toArray 9), (b3, .cells [tP tb].toArray 23)], by rw [List.append_assoc]; exact .refl _, none, 0, 0, 41, [], _, rfl, .no hr, ⟨cb, mm, es, cl, ρ, rfl, hI.mono (by omega)⟩, rfl⟩
    · have f_mixed := mixed; have f_by3 := by3; have f_by91 := by91; have f_en42 := en42; have f_en43 := en43; have f_en44 := en44; have f_en49 := en49; have f_fo74_0 := fo74_0; have f_fo80_2 := fo80_2; have f_fo80_3 := fo80_3; have f_fo80_4 := fo80_4; have f_fo91_0 := fo91_0; have f_pl91_0 := pl91_0; have f_st91 := st91; have f_ty23 := ty23; have f_ty3 := ty3; have f_ty36 := ty36; have f_ty4 := ty4; have f_ty53 := ty53; have f_ty77 := ty77; have f_ty9 := ty9; have f_ty91 := ty91; have f_un_36 : Und Try.prog 36 _ := ⟨Try.underlying36⟩; have f_un_77 : Und Try.prog 77 _ := ⟨Try.underlying77⟩; have f_zero3 := zero3; have f_zero91 := zero91; have f_zv3 := zv3; have f_zv91 := zv91
      have hid := (findT_some hf).2
      have htm := (findT_some hf).1
      have htx := hI.tx t htm
      have hgl := hI.gone t htm
      rw [hid] at htx
      obtain ⟨b, lb, cap, junk, sp, SB, gv, GB, hm, hj, hne, hle⟩ := htx.open
      have hsl := htx.sn
      have hgo := htx.go
      rw [hm] at hsl hgo
      dsimp only at hsl hgo
      obtain ⟨gp, gcap, rfl, hgrow⟩ := hgo
      have hlc := lcells_len t.lvs
      have hcap : t.lvs.length ≤ cap := by rw [List.length_append, hlc] at hj; omega
      have hpos : 0 < t.lvs.length := List.length_pos_iff.2 hne
      have hok : ∀ lF lv' LB' gF gv' GB' cF, LvIn lF lv' LB' → SlI gF gv' GB' → gF.length ≤ K + 9 → ClkOk cF → TsOk (K + 9) { T.upd id (fun u => { u with lvs := lF, gone := gF, failed := false }) with c := cF } es cl (setρ ρ id ⟨b, sp, SB, lv', LB', gv', GB'⟩) := fun lF lv' LB' gF gv' GB' cF h1 h2 h3 h4 =>
        hI.set (K' := K + 9) hf (f := fun u => { u with lvs := lF, gone := gF, failed := false }) (fun _ => rfl) (m := ⟨b, sp, SB, lv', LB', gv', GB'⟩) (by rw [hm]) ⟨hsl, h1, h2⟩ (by omega) h3 h4
      have hp := fun lF lv' LB' gF gv' GB' cF => hup (fun u => { u with lvs := lF, gone := gF, failed := false }) ⟨b, sp, SB, lv', LB', gv', GB'⟩ cF hid
      unfold tblks at hp
      unfold Ts.back
      rw [hr]
      dsimp only
      rw [hm] at hdn ⊢
      unfold thdr at hp hdn ⊢
      obtain ⟨tid, mode, snap, lvs, gone, failed, prep, nm⟩ := t
      dsimp only at *
      refine tri_intro (args := [_, _, _, _]) Try.func48 rfl Try.ntmps48 rfl (rs := _) rfl rfl fun E R => ?_
      simp only [fr, List.cons_append, List.nil_append]
      simp only [List.append_assoc, List.cons_append, List.nil_append] at hp hdn ⊢
      have f_w1 : IntKind.i64.wrap ((lvs.length : Int) - 1) = (lvs.length : Int) - 1 := wrap_in (by unfold InI; omega)
      (refine sr_ ?_; (refine ac_ ?_); refine sn_ ?_; refine sr_ ?_; (refine mv_ ?_); (refine se_ (ex_nilCheck ev_) ?_); (refine se_ (ex_fieldAddr ev_ asm_) ?_); (refine se_ (ex_load1 ev_ asm_ mem_ nth_) ?_); (refine se_ (ex_len_slice ev_ asm_) ?_); (refine se_ (ex_sub ev_ .const wr_) ?_); (refine asg_ ?_); refine sn_ ?_; (apply sc_seq); (apply sc_block))
      have hl1 : (lvs.length : Int) - 1 = ((lvs.length - 1 : Nat) : Int) := by omega
      generalize hkF : backAt lvs s (lvs.length - 1) = kF
      have hkl : kF ≤ lvs.length - 1 := by rw [← hkF]; exact backAt_le _ _ _
      refine SC.mono (Q := fun u f L => u = .exit 0 ∧ At f 0 (tP b) ∧ At f 1 (tP b5) ∧ At f 2 (tP b6) ∧ At f 3 (tP b3) ∧ At f 6 (.int .i64 (kF : Int)) ∧ Held L (hdr T tb cb mm :: (mm, .map es cl) :: (b, .cells [Value.int .i64 mode, sp, .slice (some ⟨lb, 0, none⟩) lvs.length cap, .slice gp gone.length gcap, .bool failed, .bool prep, .string nm].toArray 80) :: cB cb T.c :: (b6, .cells [Value.slice none 0 0].toArray 36) :: (b5, .cells [Value.string s].toArray 9) :: (b3, .cells [tP tb].toArray 23) :: (lb, .cells (lcells lvs ++ junk).toArray 91) :: (SB ++ (GB ++ PO))) R) ?_ ?_
      · refine sc_loop (fun k f L => k < lvs.length ∧ backAt lvs s k = kF ∧ At f 0 (tP b) ∧ At f 1 (tP b5) ∧ At f 2 (tP b6) ∧ At f 3 (tP b3) ∧ At f 6 (.int .i64 (k : Int)) ∧ Held L (hdr T tb cb mm :: (mm, .map es cl) :: (b, .cells [Value.int .i64 mode, sp, .slice (some ⟨lb, 0, none⟩) lvs.length cap, .slice gp gone.length gcap, .bool failed, .bool prep, .string nm].toArray 80) :: cB cb T.c :: (b6, .cells [Value.slice none 0 0].toArray 36) :: (b5, .cells [Value.string s].toArray 9) :: (b3, .cells [tP tb].toArray 23) :: (lb, .cells (lcells lvs ++ junk).toArray 91) :: (SB ++ (GB ++ PO))) R)
          (lvs.length - 1) ⟨by omega, hkF, at_, at_, at_, at_, by rw [← hl1]; exact at_, held_⟩ ?_
        rintro k f L ⟨hk, hb, a0, a1, a2, a3, a6, ⟨G, hG⟩⟩
        refine sc_perm hG ?_
        clear hG
        simp only [List.append_assoc, List.cons_append, List.nil_append]
        cases k with
        | zero =>
          have n0 : ¬ ((0 : Nat) : Int) > 0 := by omega
          have : kF = 0 := by rw [← hb]; rfl
          subst this
          ((apply sc_seq); (apply sc_seq); (apply sc_quiet (id := 2); assumption; kernel_rfl); (refine qe_ (ex_move ev_) ?_); (refine qe_ (ex_gtr_f ev_ .const om_) ?_); (refine qe_ (ex_move ev_) ?_); (refine qs_ ?_); (refine qs_ ?_); (refine qs_ ?_); (refine qs_ ?_); (refine qs_ ?_); (refine qs_ ?_); (refine qs_ ?_); (refine qs_ ?_); (refine qs_ ?_); (refine qs_ ?_); (refine qe_ (ex_pick_f ev_ .const) ?_); (apply sq_nil); (apply nm_then); (refine cf_ ?_); (apply sc_exit); (apply et_then); (apply et_then))
          exact ⟨rfl, at_, at_, at_, at_, at_, held_⟩
        | succ k =>
          have n0 : ((k + 1 : Nat) : Int) > 0 := by omega
          have hk1 := (lvAt_mk lvs junk (k + 1) hk).1
          have hg : lvs[k + 1]? = some lvs[k + 1] := List.getElem?_eq_getElem hk
          have f_w2 : IntKind.i64.wrap (((k + 1 : Nat) : Int) - 1) = (k : Int) := by rw [wrap_in (by unfold InI; omega)]; omega
          unfold backAt at hb
          rw [hg, Option.map_some] at hb
          cases hss : sameS lvs[k + 1].1 s with
          | true =>
            rw [hss, if_pos rfl] at hb
            subst hb
            ((apply sc_seq); (apply sc_seq); (apply sc_quiet (id := 2); assumption; kernel_rfl); (refine qe_ (ex_move ev_) ?_); (refine qe_ (ex_gtr_t ev_ .const om_) ?_); (refine qe_ (ex_move ev_) ?_); (refine qw_ ?_); (refine qe_ (ex_move ev_) ?_); (refine qw_ ?_); (refine qe_ (ex_nilCheck ev_) ?_); (refine qw_ ?_); (refine qe_ (ex_fieldAddr ev_ asm_) ?_); (refine qw_ ?_); (refine qe_ (ex_load1 ev_ asm_ mem_ nth_) ?_); (refine qw_ ?_); (refine qe_ (ex_move ev_) ?_); (refine qw_ ?_); (refine qe_ (ex_indexAddr ev_ ev_ asm_ asm_ lit_ lt_) ?_); (refine qw_ ?_); (refine qe_ (ex_fieldAddr ev_ asm_) ?_); (refine qw_ ?_); (apply sq_ex; (apply ex_load1r; (exact ev_); assumption; (exact mem_); exact hk1); exact rfl); (refine qw_ ?_); (refine qe_ (ex_load1 ev_ asm_ mem_ nth_) ?_); (refine qw_ ?_); (refine qe_ (ex_nestr ev_ ev_ asm_) ?_); (refine qe_ (ex_pick_t ev_ ev_) ?_); (apply sq_nil); (apply nm_then); (refine cf_ ?_); (apply sc_exit); (apply et_then); (apply et_then))
            exact ⟨rfl, at_, at_, at_, at_, at_, held_⟩
          | false =>
            rw [hss, if_neg (by simp)] at hb
            ((apply sc_seq); (apply sc_seq); (apply sc_quiet (id := 2); assumption; kernel_rfl); (refine qe_ (ex_move ev_) ?_); (refine qe_ (ex_gtr_t ev_ .const om_) ?_); (refine qe_ (ex_move ev_) ?_); (refine qw_ ?_); (refine qe_ (ex_move ev_) ?_); (refine qw_ ?_); (refine qe_ (ex_nilCheck ev_) ?_); (refine qw_ ?_); (refine qe_ (ex_fieldAddr ev_ asm_) ?_); (refine qw_ ?_); (refine qe_ (ex_load1 ev_ asm_ mem_ nth_) ?_); (refine qw_ ?_); (refine qe_ (ex_move ev_) ?_); (refine qw_ ?_); (refine qe_ (ex_indexAddr ev_ ev_ asm_ asm_ lit_ lt_) ?_); (refine qw_ ?_); (refine qe_ (ex_fieldAddr ev_ asm_) ?_); (refine qw_ ?_); (apply sq_ex; (apply ex_load1r; (exact ev_); assumption; (exact mem_); exact hk1); exact rfl); (refine qw_ ?_); (refine qe_ (ex_load1 ev_ asm_ mem_ nth_) ?_); (refine qw_ ?_); (refine qe_ (ex_nestr ev_ ev_ asm_) ?_); (refine qe_ (ex_pick_t ev_ ev_) ?_); (apply sq_nil); (apply nm_then); (refine ct_ ?_); (apply sc_skip); (apply nm_then); (apply sc_block); (apply sc_region); (refine mv_ ?_); (refine se_ (ex_sub ev_ .const wr_) ?_); (refine asg_ ?_); (apply so_nil); (apply nm_block); (apply nm_then))
            exact ⟨k, Nat.lt_succ_self k, by omega, hb, at_, at_, at_, at_, at_, held_⟩
      rintro u f L ⟨rfl, a0, a1, a2, a3, a6, ⟨G, hG⟩⟩
      refine et_hit (nm_then (sc_perm hG ?_))
      clear hG
      simp only [List.append_assoc, List.cons_append, List.nil_append]
      cases kF with
      | zero =>
        have f0 : ((0 : Nat) : Int) = 0 := rfl
        have hdn' := (hdn.symm.append_right [(b6, .cells [Value.slice none 0 0].toArray 36)])
        simp only [List.append_assoc, List.cons_append, List.nil_append] at hdn'
        ((apply sc_seq); refine sr_ ?_; (refine mv_ ?_); (refine se_ (ex_eql_t ev_ .const om_) ?_); refine sn_ ?_; (refine ct_ ?_); refine sr_ ?_; (refine ac_ ?_); refine sn_ ?_; (apply sc_ret); (apply rt_then); (apply ret_ok; (focus ((apply Res.tmp; (exact ev_)); exact Res.nil)); (exact ⟨_, hdn', none, 0, 0, _, [], _, rfl, .zero hr hkF, ⟨cb, mm, es, cl, _, rfl, hI.mono (by omega)⟩, rfl⟩); (exact sel_); (exact appb_)))
      | succ k =>
        have f0 : ¬ ((k + 1 : Nat) : Int) = 0 := by omega
        dsimp only
        have hk : k + 1 < lvs.length := by omega
        have hkc : k + 1 ≤ cap := by omega
        have hdl : (lvs.drop (k + 1)).length = lvs.length - (k + 1) := List.length_drop
        have c3 := fun bx => xids_tri (bx := bx) (lb := lb) (cap := cap - (k + 1)) (T := 91) (fz := (0, 0)) (lvAt_drop lvs junk (k + 1)) (by omega)
        simp only [hdl] at c3
        have hcl := cloneL_tri (l := lvs) (junk := junk) (lb := lb) (cap := cap) (k := k + 1) (by omega) (by omega)
        have hgl2 := xids_len (lvs.drop (k + 1))
        have hbb : (k + 1 + 1) * 24 ≤ 140737488355328 := by omega
        have hbb2 : k + 1 + 1 ≤ 9223372036854775807 := by omega
        have hgc : gone.length ≤ gcap := by
          clear hok hp hgl
          generalize hX : gone.map (Value.int .i64) = X at hgrow
          generalize gone.length = gn at hgrow
          cases hgrow with
          | nil => exact Nat.le_refl _
          | row h1 h2 => rw [List.length_append] at h2; omega
        have hR : ∀ sv B, SlI (xidsOf (lvs.drop (k + 1))) sv B → BackR T id s 0 sv B := fun sv B h => BackR.ok hr hkF h
        generalize hg : xidsOf (lvs.drop (k + 1)) = g at *
        have hgl3 : g.length ≤ 9 := by omega
        ((apply sc_seq); refine sr_ ?_; (refine mv_ ?_); (refine se_ (ex_eql_f ev_ .const om_) ?_); refine sn_ ?_; (refine cf_ ?_); (apply sc_skip); (apply nm_then); refine sr_ ?_; (refine mv_ ?_); (refine se_ (ex_nilCheck ev_) ?_); (refine se_ (ex_fieldAddr ev_ asm_) ?_); (refine se_ (ex_load1 ev_ asm_ mem_ nth_) ?_); (refine mv_ ?_); (apply so_ex; (apply ex_sliceFrom; (exact ev_); (exact ev_); assumption; assumption; exact hk; exact hcap); exact rfl))
        (apply so_call; (exact Ev.func); (focus ((apply EvL.cons; (exact ev_)); exact EvL.nil)); (focus (repeat (first | exact App.nil | apply App.cons))); assumption; (exact numbers_tri _ _ _); (exact sel_); exact rfl)
        rintro v L ⟨bx, rfl, rfl⟩
        simp only [List.append_assoc, List.cons_append, List.nil_append]
        skip
        (apply so_call; (exact Ev.func); (focus ((apply EvL.cons; (exact ev_)); exact EvL.nil)); (focus (repeat (first | exact App.nil | apply App.cons))); assumption; (exact c3 bx); (exact sel_); exact rfl)
        rintro v L ⟨B6, ⟨hB6, hnil⟩, rfl⟩
        simp only [List.append_assoc, List.cons_append, List.nil_append]
        cases g with
        | nil =>
          obtain ⟨rfl, rfl⟩ := hnil rfl
          have hgN : SlI (gone ++ []) (.slice gp gone.length gcap) GB := by rw [List.append_nil]; exact ⟨_, _, rfl, hgrow⟩
          have hcN : ClkOk T.c := hI.ck
          have n0 : ¬ (0 : Int) > 0 := by omega
          ((apply so_store; (exact ev_); (exact ev_); assumption; exact rfl; exact rfl; exact rfl; (focus (repeat (first | exact Turn.here | apply Turn.there | apply Turn.pre))); (focus (repeat (first | exact SetSub.nil | apply SetSub.take | apply SetSub.drop)))); refine sn_ ?_; (apply sc_seq); (apply sc_seq); ((fail_if_success (apply sc_region (id := 10))); apply sc_region); (refine se_ (ex_load1 ev_ asm_ mem_ nth_) ?_); (refine se_ (ex_len_slice ev_ asm_) ?_); (refine se_ (ex_gtr_f ev_ .const om_) ?_); refine sn_ ?_; (refine cf_ ?_); (apply sc_skip); (apply nm_then); (apply sc_seq); (apply sc_any (id := 9) (vol := (b, Obj.cells [Value.int .i64 mode, sp, .slice (some ⟨lb, 0, none⟩) lvs.length cap, .slice gp gone.length gcap, .bool failed, .bool prep, .string nm].toArray 80) :: GB); assumption; (exact sel_); exact rfl; exact rfl; (apply sa_take (i := 0); kernel_rfl; exact rfl; kernel_rfl; kernel_rfl; exact rfl; exact rfl; (exact sel_); (apply qo_ex; (apply ex_move; (exact ev_))); apply sa_take (i := 1); kernel_rfl; exact rfl; kernel_rfl; kernel_rfl; exact rfl; exact rfl; (exact sel_); (apply qo_ex; (apply ex_move; (exact ev_))); apply sa_take (i := 2); kernel_rfl; exact rfl; kernel_rfl; kernel_rfl; exact rfl; exact rfl; (exact sel_); (apply qo_ex; (apply ex_nilCheck; (exact ev_))); apply sa_take (i := 3); kernel_rfl; exact rfl; kernel_rfl; kernel_rfl; exact rfl; exact rfl; (exact sel_); (apply qo_ex; (apply ex_fieldAddr; (exact ev_); assumption)); apply sa_take (i := 5); kernel_rfl; exact rfl; kernel_rfl; kernel_rfl; exact rfl; exact rfl; (exact sel_); (apply qo_ex; (apply ex_load1; (exact ev_); assumption; (exact mem_); (exact nth_))); apply sa_one (i := 4); exact rfl; kernel_rfl; exact rfl; (((refine se_ (ex_load1 ev_ asm_ mem_ nth_) ?_))); apply sa_next; (exact sel_); apply sa_one (i := 6); exact rfl; kernel_rfl; exact rfl; (((apply so_ex; (apply ex_append_nil; (exact ev_); (exact ev_); assumption; assumption; exact hgc); exact rfl))); apply sa_next; (exact sel_); apply sa_take (i := 7); kernel_rfl; exact rfl; kernel_rfl; kernel_rfl; exact rfl; exact rfl; (exact sel_); (apply qo_ex; (apply ex_nilCheck; (exact ev_))); apply sa_take (i := 8); kernel_rfl; exact rfl; kernel_rfl; kernel_rfl; exact rfl; exact rfl; (exact sel_); (apply qo_ex; (apply ex_fieldAddr; (exact ev_); assumption)); apply sa_one (i := 9); exact rfl; kernel_rfl; exact rfl; (((apply so_store; (exact ev_); (exact ev_); assumption; exact rfl; exact rfl; exact rfl; (focus (repeat (first | exact Turn.here | apply Turn.there | apply Turn.pre))); (focus (repeat (first | exact SetSub.nil | apply SetSub.take | apply SetSub.drop)))))); apply sa_next; (exact sel_); (apply sa_done_then; kernel_rfl))); (apply sc_seq))
          refine SC.mono (Q := fun u f L => u = .normal ∧ ∃ p3 cap3 H3, Row 91 2 (.slice p3 (k + 1 + 1) cap3) (lcells (lvs.take (k + 1)) ++ [Value.string s, .int .i64 0]) H3 ∧ At f 0 (tP b) ∧ Held L (H3 ++ (hdr T tb cb mm :: (mm, .map es cl) :: (b, .cells [Value.int .i64 mode, sp, .slice p3 (k + 1 + 1) cap3, .slice gp gone.length gcap, .bool failed, .bool prep, .string nm].toArray 80) :: cB cb T.c :: (b6, .cells [Value.slice none 0 0].toArray 36) :: (SB ++ (GB ++ PO)))) R) ?_ ?_
          · ((apply sc_any (id := 10) (vol := [(b, Obj.cells [Value.int .i64 mode, sp, .slice (some ⟨lb, 0, none⟩) lvs.length cap, .slice gp gone.length gcap, .bool failed, .bool prep, .string nm].toArray 80)]); assumption; (exact sel_); exact rfl; exact rfl; (apply sa_take (i := 0); kernel_rfl; exact rfl; kernel_rfl; kernel_rfl; exact rfl; exact rfl; (exact sel_); (apply qo_ex; (apply ex_move; (exact ev_))); apply sa_take (i := 1); kernel_rfl; exact rfl; kernel_rfl; kernel_rfl; exact rfl; exact rfl; (exact sel_); (apply qo_ex; (apply ex_move; (exact ev_))); apply sa_take (i := 2); kernel_rfl; exact rfl; kernel_rfl; kernel_rfl; exact rfl; exact rfl; (exact sel_); (apply qo_ex; (apply ex_nilCheck; (exact ev_))); apply sa_take (i := 3); kernel_rfl; exact rfl; kernel_rfl; kernel_rfl; exact rfl; exact rfl; (exact sel_); (apply qo_ex; (apply ex_fieldAddr; (exact ev_); assumption)); apply sa_take (i := 5); kernel_rfl; exact rfl; kernel_rfl; kernel_rfl; exact rfl; exact rfl; (exact sel_); (apply qo_ex; (apply ex_move; (exact ev_))); apply sa_take (i := 8); kernel_rfl; exact rfl; kernel_rfl; kernel_rfl; exact rfl; exact rfl; (exact sel_); (apply qo_ex; (apply ex_load1; (exact ev_); assumption; (exact mem_); (exact nth_))); apply sa_take (i := 9); kernel_rfl; exact rfl; kernel_rfl; kernel_rfl; exact rfl; exact rfl; (exact sel_); (apply qo_ex; (apply ex_build; ((focus ((apply EvP.cons; (exact ev_)); exact EvP.nil))); assumption; ((focus (repeat (first | exact Bld.nil (by assumption) | (apply Bld.cons; assumption; exact rfl; exact rfl; (focus (repeat (first | exact SetSub.nil | apply SetSub.take | apply SetSub.drop)))))))))); apply sa_two (i := 4) (j := 10); exact rfl; exact rfl; kernel_rfl; exact rfl; exact rfl; rotate_left 1; ((((apply so_buildS; (focus ((apply EvP.cons; (exact ev_)); exact EvP.nil)); assumption; assumption; assumption; (focus (repeat (first | exact SeqP.nil | (apply SeqP.cons; exact rfl; exact rfl) | exact App.nil | apply App.cons))); exact rfl; exact rfl; exact rfl; intro _)))); apply sa_next; (exact sel_); (apply sa_one (i := 4); exact rfl; kernel_rfl; exact rfl; (((refine se_ (ex_load1 ev_ asm_ mem_ nth_) ?_))); apply sa_next; (exact sel_); apply sa_take (i := 6); kernel_rfl; exact rfl; kernel_rfl; kernel_rfl; exact rfl; exact rfl; (exact sel_); (apply qo_ex; apply ex_sliceTo; (exact ev_); (exact ev_); assumption; assumption; exact hkc); apply sa_one (i := 7); exact rfl; kernel_rfl; exact rfl; (((apply so_call; (exact Ev.func); (focus ((apply EvL.cons; (exact ev_)); exact EvL.nil)); (focus (repeat (first | exact App.nil | apply App.cons))); assumption; exact hcl; (exact sel_); exact rfl; rintro _ _ ⟨p1, cap1, B1, rfl, hr1, rfl⟩; simp only [List.append_assoc, List.cons_append, List.nil_append]))); apply sa_next; (exact sel_); apply sa_one (i := 11); exact rfl; kernel_rfl; exact rfl; (((apply so_appR (et := 91) (s := 2) (ys := [Value.string s, .int .i64 0]); (exact ev_); (exact ev_); exact hr1; (exact sel_); (exact mem_); exact rfl; exact (fun j hj => by rw [Nat.zero_add]); assumption; assumption; assumption; exact rfl; assumption; exact hbb; exact hbb2; exact rfl; exact rfl; exact rfl; intro p3 cap3 H3 hr3))); apply sa_next; (exact sel_); apply sa_take (i := 12); kernel_rfl; exact rfl; kernel_rfl; kernel_rfl; exact rfl; exact rfl; (exact sel_); (apply qo_ex; (apply ex_nilCheck; (exact ev_))); apply sa_take (i := 13); kernel_rfl; exact rfl; kernel_rfl; kernel_rfl; exact rfl; exact rfl; (exact sel_); (apply qo_ex; (apply ex_fieldAddr; (exact ev_); assumption)); apply sa_one (i := 14); exact rfl; kernel_rfl; exact rfl; (((apply so_store; (exact ev_); (exact ev_); assumption; exact rfl; exact rfl; exact rfl; (focus (repeat (first | exact Turn.here | apply Turn.there | apply Turn.pre))); (focus (repeat (first | exact SetSub.nil | apply SetSub.take | apply SetSub.drop)))))); apply sa_next; (exact sel_); (apply sa_done; kernel_rfl)); rotate_right 1; ((((refine se_ (ex_load1 ev_ asm_ mem_ nth_) ?_)))); apply sa_next; (exact sel_); (apply sa_take (i := 6); kernel_rfl; exact rfl; kernel_rfl; kernel_rfl; exact rfl; exact rfl; (exact sel_); (apply qo_ex; apply ex_sliceTo; (exact ev_); (exact ev_); assumption; assumption; exact hkc); apply sa_two (i := 7) (j := 10); exact rfl; exact rfl; kernel_rfl; exact rfl; exact rfl; rotate_left 1; ((((apply so_buildS; (focus ((apply EvP.cons; (exact ev_)); exact EvP.nil)); assumption; assumption; assumption; (focus (repeat (first | exact SeqP.nil | (apply SeqP.cons; exact rfl; exact rfl) | exact App.nil | apply App.cons))); exact rfl; exact rfl; exact rfl; intro _)))); apply sa_next; (exact sel_); (apply sa_one (i := 7); exact rfl; kernel_rfl; exact rfl; (((apply so_call; (exact Ev.func); (focus ((apply EvL.cons; (exact ev_)); exact EvL.nil)); (focus (repeat (first | exact App.nil | apply App.cons))); assumption; exact hcl; (exact sel_); exact rfl; rintro _ _ ⟨p1, cap1, B1, rfl, hr1, rfl⟩; simp only [List.append_assoc, List.cons_append, List.nil_append]))); apply sa_next; (exact sel_); apply sa_one (i := 11); exact rfl; kernel_rfl; exact rfl; (((apply so_appR (et := 91) (s := 2) (ys := [Value.string s, .int .i64 0]); (exact ev_); (exact ev_); exact hr1; (exact sel_); (exact mem_); exact rfl; exact (fun j hj => by rw [Nat.zero_add]); assumption; assumption; assumption; exact rfl; assumption; exact hbb; exact hbb2; exact rfl; exact rfl; exact rfl; intro p3 cap3 H3 hr3))); apply sa_next; (exact sel_); apply sa_take (i := 12); kernel_rfl; exact rfl; kernel_rfl; kernel_rfl; exact rfl; exact rfl; (exact sel_); (apply qo_ex; (apply ex_nilCheck; (exact ev_))); apply sa_take (i := 13); kernel_rfl; exact rfl; kernel_rfl; kernel_rfl; exact rfl; exact rfl; (exact sel_); (apply qo_ex; (apply ex_fieldAddr; (exact ev_); assumption)); apply sa_one (i := 14); exact rfl; kernel_rfl; exact rfl; (((apply so_store; (exact ev_); (exact ev_); assumption; exact rfl; exact rfl; exact rfl; (focus (repeat (first | exact Turn.here | apply Turn.there | apply Turn.pre))); (focus (repeat (first | exact SetSub.nil | apply SetSub.take | apply SetSub.drop)))))); apply sa_next; (exact sel_); (apply sa_done; kernel_rfl)); rotate_right 1; ((((apply so_call; (exact Ev.func); (focus ((apply EvL.cons; (exact ev_)); exact EvL.nil)); (focus (repeat (first | exact App.nil | apply App.cons))); assumption; exact hcl; (exact sel_); exact rfl; rintro _ _ ⟨p1, cap1, B1, rfl, hr1, rfl⟩; simp only [List.append_assoc, List.cons_append, List.nil_append])))); apply sa_next; (exact sel_); (apply sa_one (i := 10); exact rfl; kernel_rfl; exact rfl; (((apply so_buildS; (focus ((apply EvP.cons; (exact ev_)); exact EvP.nil)); assumption; assumption; assumption; (focus (repeat (first | exact SeqP.nil | (apply SeqP.cons; exact rfl; exact rfl) | exact App.nil | apply App.cons))); exact rfl; exact rfl; exact rfl; intro _))); apply sa_next; (exact sel_); apply sa_one (i := 11); exact rfl; kernel_rfl; exact rfl; (((apply so_appR (et := 91) (s := 2) (ys := [Value.string s, .int .i64 0]); (exact ev_); (exact ev_); exact hr1; (exact sel_); (exact mem_); exact rfl; exact (fun j hj => by rw [Nat.zero_add]); assumption; assumption; assumption; exact rfl; assumption; exact hbb; exact hbb2; exact rfl; exact rfl; exact rfl; intro p3 cap3 H3 hr3))); apply sa_next; (exact sel_); apply sa_take (i := 12); kernel_rfl; exact rfl; kernel_rfl; kernel_rfl; exact rfl; exact rfl; (exact sel_); (apply qo_ex; (apply ex_nilCheck; (exact ev_))); apply sa_take (i := 13); kernel_rfl; exact rfl; kernel_rfl; kernel_rfl; exact rfl; exact rfl; (exact sel_); (apply qo_ex; (apply ex_fieldAddr; (exact ev_); assumption)); apply sa_one (i := 14); exact rfl; kernel_rfl; exact rfl; (((apply so_store; (exact ev_); (exact ev_); assumption; exact rfl; exact rfl; exact rfl; (focus (repeat (first | exact Turn.here | apply Turn.there | apply Turn.pre))); (focus (repeat (first | exact SetSub.nil | apply SetSub.take | apply SetSub.drop)))))); apply sa_next; (exact sel_); (apply sa_done; kernel_rfl))))); (apply And.intro rfl; exact ⟨_, _, _, hr3, at_, held_⟩); (apply And.intro rfl; exact ⟨_, _, _, hr3, at_, held_⟩); (apply And.intro rfl; exact ⟨_, _, _, hr3, at_, held_⟩))
          rintro u f L ⟨rfl, p3, cap3, H3, hr3, a0, ⟨G2, hG2⟩⟩
          apply nm_then
          refine sc_perm hG2 ?_
          clear hG2
          have hlv' := LvIn.of_row (l := lvs.take (k + 1) ++ [(s, 0)]) (by simp) (by simp; omega) (by simp; omega) (by rw [lcells_app]; rfl) hr3
          have hok' := hok _ _ _ (gone ++ []) _ _ (T.c) hlv' hgN (by simp at hgl ⊢; omega) hcN
          have hp' := (hp (lvs.take (k + 1) ++ [(s, 0)]) (.slice p3 (k + 1 + 1) cap3) H3 (gone ++ []) (.slice gp gone.length gcap) GB (T.c)).append_right [(b6, .cells [Value.slice none 0 0].toArray 36)]
          simp only [List.append_assoc, List.cons_append, List.nil_append] at hp' ⊢
          (refine sr_ ?_; (refine mv_ ?_); (refine se_ (ex_nilCheck ev_) ?_); (refine se_ (ex_fieldAddr ev_ asm_) ?_); (apply so_store; (exact ev_); (exact Ev.const); assumption; exact rfl; exact rfl; exact rfl; (focus (repeat (first | exact Turn.here | apply Turn.there | apply Turn.pre))); (focus (repeat (first | exact SetSub.nil | apply SetSub.take | apply SetSub.drop)))); refine sn_ ?_; refine sr_ ?_; (refine ac_ ?_); refine sn_ ?_; (apply sc_ret); (apply ret_ok; (focus ((apply Res.tmp; (exact ev_)); exact Res.nil)); (exact ⟨_, hp', _, _, _, _, [], _, rfl, hR _ _ .empty, ⟨cb, mm, es, cl, _, rfl, hok'⟩, rfl⟩); (exact sel_); (exact appb_)))
        | cons z zr =>
          rcases hB6.cases with ⟨h0, _⟩ | ⟨b7, cap7, junk7, rfl, hj7, rfl⟩
          · cases h0
          have hend : Tri Try.prog 43 #[cP cb, .int .i64 z, .int .i64 3] [cB cb T.c] fun v L => (∃ e, v = .int .i64 e) ∧ L = [cB cb (T.c.endHd (z :: zr) 3)] := end_tri hI.ck cb z 3
          have hcN : ClkOk (T.c.endHd (z :: zr) 3) := endAt_ok hI.ck z 3
          have hz0 : 0 < (z :: zr).length := Nat.succ_pos _
          have n0 : (((z :: zr).length : Nat) : Int) > 0 := by omega
          have hz : ((z :: zr).map (Value.int .i64) ++ junk7)[0 + 0 * 1]? = some (.int .i64 z) := by simp
          have hyl : ((z :: zr).map (Value.int .i64)).length = (z :: zr).length * 1 := by simp
          have hyc : ∀ j, j < ((z :: zr).map (Value.int .i64)).length → ((z :: zr).map (Value.int .i64) ++ junk7)[0 + j]? = ((z :: zr).map (Value.int .i64))[j]? := fun j hj => by rw [Nat.zero_add, List.getElem?_append_left hj]
          have hone : ((z :: zr).map (Value.int .i64)).all (·.oneCell') = true := by rw [List.all_map]; exact List.all_eq_true.2 fun _ _ => rfl
          have hb9 : (gone.length + (z :: zr).length) * 8 ≤ 140737488355328 := by omega
          have hb8 : gone.length + (z :: zr).length ≤ 9223372036854775807 := by omega
          simp only [List.append_assoc, List.cons_append, List.nil_append]
          ((apply so_store; (exact ev_); (exact ev_); assumption; exact rfl; exact rfl; exact rfl; (focus (repeat (first | exact Turn.here | apply Turn.there | apply Turn.pre))); (focus (repeat (first | exact SetSub.nil | apply SetSub.take | apply SetSub.drop)))); refine sn_ ?_; (apply sc_seq); (apply sc_seq); ((fail_if_success (apply sc_region (id := 10))); apply sc_region); (refine se_ (ex_load1 ev_ asm_ mem_ nth_) ?_); (refine se_ (ex_len_slice ev_ asm_) ?_); (refine se_ (ex_gtr_t ev_ .const om_) ?_); refine sn_ ?_; (refine ct_ ?_); (apply sc_any (id := 8) (vol := [cB cb T.c]); assumption; (exact sel_); exact rfl; exact rfl; (apply sa_take (i := 0); kernel_rfl; exact rfl; kernel_rfl; kernel_rfl; exact rfl; exact rfl; (exact sel_); (apply qo_ex; (apply ex_load1; (exact ev_); assumption; (exact mem_); (exact nth_))); apply sa_take (i := 1); kernel_rfl; exact rfl; kernel_rfl; kernel_rfl; exact rfl; exact rfl; (exact sel_); (apply qo_ex; (apply ex_nilCheck; (exact ev_))); apply sa_take (i := 2); kernel_rfl; exact rfl; kernel_rfl; kernel_rfl; exact rfl; exact rfl; (exact sel_); (apply qo_ex; (apply ex_fieldAddr; (exact ev_); assumption)); apply sa_take (i := 3); kernel_rfl; exact rfl; kernel_rfl; kernel_rfl; exact rfl; exact rfl; (exact sel_); (apply qo_ex; (apply ex_load1; (exact ev_); assumption; (exact mem_); (exact nth_))); apply sa_take (i := 4); kernel_rfl; exact rfl; kernel_rfl; kernel_rfl; exact rfl; exact rfl; (exact sel_); (apply qo_ex; (apply ex_load1; (exact ev_); assumption; (exact mem_); (exact nth_))); apply sa_take (i := 5); kernel_rfl; exact rfl; kernel_rfl; kernel_rfl; exact rfl; exact rfl; (exact sel_); (apply qo_ex; (apply ex_indexAddr; (exact ev_); ((exact Ev.const)); assumption; assumption; (first | exact rfl | exact (rfl : (0:Int) = ((0:Nat):Int)) | exact (rfl : (1:Int) = ((1:Nat):Int)) | exact (rfl : (2:Int) = ((2:Nat):Int)) | assumption); (first | assumption | omega | decide))); apply sa_take (i := 6); kernel_rfl; exact rfl; kernel_rfl; kernel_rfl; exact rfl; exact rfl; (exact sel_); (apply qo_ex; apply ex_load1r; (exact ev_); assumption; (exact mem_); exact hz); apply sa_one (i := 7); exact rfl; kernel_rfl; exact rfl; (((apply so_call; (exact Ev.func); (focus ((apply EvL.cons; (exact ev_)); (apply EvL.cons; (exact ev_)); (apply EvL.cons; (exact Ev.const)); exact EvL.nil)); (focus (repeat (first | exact App.nil | apply App.cons))); assumption; exact hend; (exact sel_); exact rfl; rintro _ _ ⟨⟨_, rfl⟩, rfl⟩; simp only [List.append_assoc, List.cons_append, List.nil_append]))); apply sa_next; (exact sel_); (apply sa_done_then; kernel_rfl))); (apply sc_seq); (apply sc_any (id := 9) (vol := (b, Obj.cells [Value.int .i64 mode, sp, .slice (some ⟨lb, 0, none⟩) lvs.length cap, .slice gp gone.length gcap, .bool failed, .bool prep, .string nm].toArray 80) :: GB); assumption; (exact sel_); exact rfl; exact rfl; (apply sa_take (i := 0); kernel_rfl; exact rfl; kernel_rfl; kernel_rfl; exact rfl; exact rfl; (exact sel_); (apply qo_ex; (apply ex_move; (exact ev_))); apply sa_take (i := 1); kernel_rfl; exact rfl; kernel_rfl; kernel_rfl; exact rfl; exact rfl; (exact sel_); (apply qo_ex; (apply ex_move; (exact ev_))); apply sa_take (i := 2); kernel_rfl; exact rfl; kernel_rfl; kernel_rfl; exact rfl; exact rfl; (exact sel_); (apply qo_ex; (apply ex_nilCheck; (exact ev_))); apply sa_take (i := 3); kernel_rfl; exact rfl; kernel_rfl; kernel_rfl; exact rfl; exact rfl; (exact sel_); (apply qo_ex; (apply ex_fieldAddr; (exact ev_); assumption)); apply sa_take (i := 5); kernel_rfl; exact rfl; kernel_rfl; kernel_rfl; exact rfl; exact rfl; (exact sel_); (apply qo_ex; (apply ex_load1; (exact ev_); assumption; (exact mem_); (exact nth_))); apply sa_one (i := 4); exact rfl; kernel_rfl; exact rfl; (((refine se_ (ex_load1 ev_ asm_ mem_ nth_) ?_))); apply sa_next; (exact sel_); apply sa_one (i := 6); exact rfl; kernel_rfl; exact rfl; (((apply so_appR (et := 3) (s := 1) (ys := (z :: zr).map (Value.int .i64)); (exact ev_); (exact ev_); exact hgrow; (exact sel_); (exact mem_); exact hyl; exact hyc; assumption; assumption; assumption; exact rfl; assumption; exact hb9; exact hb8; exact rfl; exact hone; exact rfl; intro p2 cap2 H2 hr2))); apply sa_next; (exact sel_); apply sa_take (i := 7); kernel_rfl; exact rfl; kernel_rfl; kernel_rfl; exact rfl; exact rfl; (exact sel_); (apply qo_ex; (apply ex_nilCheck; (exact ev_))); apply sa_take (i := 8); kernel_rfl; exact rfl; kernel_rfl; kernel_rfl; exact rfl; exact rfl; (exact sel_); (apply qo_ex; (apply ex_fieldAddr; (exact ev_); assumption)); apply sa_one (i := 9); exact rfl; kernel_rfl; exact rfl; (((apply so_store; (exact ev_); (exact ev_); assumption; exact rfl; exact rfl; exact rfl; (focus (repeat (first | exact Turn.here | apply Turn.there | apply Turn.pre))); (focus (repeat (first | exact SetSub.nil | apply SetSub.take | apply SetSub.drop)))))); apply sa_next; (exact sel_); (apply sa_done_then; kernel_rfl))); (apply sc_seq))
          have hgN : SlI (gone ++ z :: zr) (.slice p2 (gone.length + (z :: zr).length) cap2) H2 := ⟨p2, cap2, by rw [List.length_append], by rw [List.map_append]; exact hr2⟩
          refine SC.mono (Q := fun u f L => u = .normal ∧ ∃ p3 cap3 H3, Row 91 2 (.slice p3 (k + 1 + 1) cap3) (lcells (lvs.take (k + 1)) ++ [Value.string s, .int .i64 0]) H3 ∧ At f 0 (tP b) ∧ Held L (H3 ++ (hdr T tb cb mm :: (mm, .map es cl) :: (b, .cells [Value.int .i64 mode, sp, .slice p3 (k + 1 + 1) cap3, .slice p2 (gone.length + (z :: zr).length) cap2, .bool failed, .bool prep, .string nm].toArray 80) :: cB cb (T.c.endHd (z :: zr) 3) :: (b6, .cells [Value.slice (some ⟨b7, 0, none⟩) (z :: zr).length cap7].toArray 36) :: (b7, .cells ((z :: zr).map (Value.int .i64) ++ junk7).toArray 3) :: (SB ++ (H2 ++ PO)))) R) ?_ ?_
          · ((apply sc_any (id := 10) (vol := [(b, Obj.cells [Value.int .i64 mode, sp, .slice (some ⟨lb, 0, none⟩) lvs.length cap, .slice p2 (gone.length + (z :: zr).length) cap2, .bool failed, .bool prep, .string nm].toArray 80)]); assumption; (exact sel_); exact rfl; exact rfl; (apply sa_take (i := 0); kernel_rfl; exact rfl; kernel_rfl; kernel_rfl; exact rfl; exact rfl; (exact sel_); (apply qo_ex; (apply ex_move; (exact ev_))); apply sa_take (i := 1); kernel_rfl; exact rfl; kernel_rfl; kernel_rfl; exact rfl; exact rfl; (exact sel_); (apply qo_ex; (apply ex_move; (exact ev_))); apply sa_take (i := 2); kernel_rfl; exact rfl; kernel_rfl; kernel_rfl; exact rfl; exact rfl; (exact sel_); (apply qo_ex; (apply ex_nilCheck; (exact ev_))); apply sa_take (i := 3); kernel_rfl; exact rfl; kernel_rfl; kernel_rfl; exact rfl; exact rfl; (exact sel_); (apply qo_ex; (apply ex_fieldAddr; (exact ev_); assumption)); apply sa_take (i := 5); kernel_rfl; exact rfl; kernel_rfl; kernel_rfl; exact rfl; exact rfl; (exact sel_); (apply qo_ex; (apply ex_move; (exact ev_))); apply sa_take (i := 8); kernel_rfl; exact rfl; kernel_rfl; kernel_rfl; exact rfl; exact rfl; (exact sel_); (apply qo_ex; (apply ex_load1; (exact ev_); assumption; (exact mem_); (exact nth_))); apply sa_take (i := 9); kernel_rfl; exact rfl; kernel_rfl; kernel_rfl; exact rfl; exact rfl; (exact sel_); (apply qo_ex; (apply ex_build; ((focus ((apply EvP.cons; (exact ev_)); exact EvP.nil))); assumption; ((focus (repeat (first | exact Bld.nil (by assumption) | (apply Bld.cons; assumption; exact rfl; exact rfl; (focus (repeat (first | exact SetSub.nil | apply SetSub.take | apply SetSub.drop)))))))))); apply sa_two (i := 4) (j := 10); exact rfl; exact rfl; kernel_rfl; exact rfl; exact rfl; rotate_left 1; ((((apply so_buildS; (focus ((apply EvP.cons; (exact ev_)); exact EvP.nil)); assumption; assumption; assumption; (focus (repeat (first | exact SeqP.nil | (apply SeqP.cons; exact rfl; exact rfl) | exact App.nil | apply App.cons))); exact rfl; exact rfl; exact rfl; intro _)))); apply sa_next; (exact sel_); (apply sa_one (i := 4); exact rfl; kernel_rfl; exact rfl; (((refine se_ (ex_load1 ev_ asm_ mem_ nth_) ?_))); apply sa_next; (exact sel_); apply sa_take (i := 6); kernel_rfl; exact rfl; kernel_rfl; kernel_rfl; exact rfl; exact rfl; (exact sel_); (apply qo_ex; apply ex_sliceTo; (exact ev_); (exact ev_); assumption; assumption; exact hkc); apply sa_one (i := 7); exact rfl; kernel_rfl; exact rfl; (((apply so_call; (exact Ev.func); (focus ((apply EvL.cons; (exact ev_)); exact EvL.nil)); (focus (repeat (first | exact App.nil | apply App.cons))); assumption; exact hcl; (exact sel_); exact rfl; rintro _ _ ⟨p1, cap1, B1, rfl, hr1, rfl⟩; simp only [List.append_assoc, List.cons_append, List.nil_append]))); apply sa_next; (exact sel_); apply sa_one (i := 11); exact rfl; kernel_rfl; exact rfl; (((apply so_appR (et := 91) (s := 2) (ys := [Value.string s, .int .i64 0]); (exact ev_); (exact ev_); exact hr1; (exact sel_); (exact mem_); exact rfl; exact (fun j hj => by rw [Nat.zero_add]); assumption; assumption; assumption; exact rfl; assumption; exact hbb; exact hbb2; exact rfl; exact rfl; exact rfl; intro p3 cap3 H3 hr3))); apply sa_next; (exact sel_); apply sa_take (i := 12); kernel_rfl; exact rfl; kernel_rfl; kernel_rfl; exact rfl; exact rfl; (exact sel_); (apply qo_ex; (apply ex_nilCheck; (exact ev_))); apply sa_take (i := 13); kernel_rfl; exact rfl; kernel_rfl; kernel_rfl; exact rfl; exact rfl; (exact sel_); (apply qo_ex; (apply ex_fieldAddr; (exact ev_); assumption)); apply sa_one (i := 14); exact rfl; kernel_rfl; exact rfl; (((apply so_store; (exact ev_); (exact ev_); assumption; exact rfl; exact rfl; exact rfl; (focus (repeat (first | exact Turn.here | apply Turn.there | apply Turn.pre))); (focus (repeat (first | exact SetSub.nil | apply SetSub.take | apply SetSub.drop)))))); apply sa_next; (exact sel_); (apply sa_done; kernel_rfl)); rotate_right 1; ((((refine se_ (ex_load1 ev_ asm_ mem_ nth_) ?_)))); apply sa_next; (exact sel_); (apply sa_take (i := 6); kernel_rfl; exact rfl; kernel_rfl; kernel_rfl; exact rfl; exact rfl; (exact sel_); (apply qo_ex; apply ex_sliceTo; (exact ev_); (exact ev_); assumption; assumption; exact hkc); apply sa_two (i := 7) (j := 10); exact rfl; exact rfl; kernel_rfl; exact rfl; exact rfl; rotate_left 1; ((((apply so_buildS; (focus ((apply EvP.cons; (exact ev_)); exact EvP.nil)); assumption; assumption; assumption; (focus (repeat (first | exact SeqP.nil | (apply SeqP.cons; exact rfl; exact rfl) | exact App.nil | apply App.cons))); exact rfl; exact rfl; exact rfl; intro _)))); apply sa_next; (exact sel_); (apply sa_one (i := 7); exact rfl; kernel_rfl; exact rfl; (((apply so_call; (exact Ev.func); (focus ((apply EvL.cons; (exact ev_)); exact EvL.nil)); (focus (repeat (first | exact App.nil | apply App.cons))); assumption; exact hcl; (exact sel_); exact rfl; rintro _ _ ⟨p1, cap1, B1, rfl, hr1, rfl⟩; simp only [List.append_assoc, List.cons_append, List.nil_append]))); apply sa_next; (exact sel_); apply sa_one (i := 11); exact rfl; kernel_rfl; exact rfl; (((apply so_appR (et := 91) (s := 2) (ys := [Value.string s, .int .i64 0]); (exact ev_); (exact ev_); exact hr1; (exact sel_); (exact mem_); exact rfl; exact (fun j hj => by rw [Nat.zero_add]); assumption; assumption; assumption; exact rfl; assumption; exact hbb; exact hbb2; exact rfl; exact rfl; exact rfl; intro p3 cap3 H3 hr3))); apply sa_next; (exact sel_); apply sa_take (i := 12); kernel_rfl; exact rfl; kernel_rfl; kernel_rfl; exact rfl; exact rfl; (exact sel_); (apply qo_ex; (apply ex_nilCheck; (exact ev_))); apply sa_take (i := 13); kernel_rfl; exact rfl; kernel_rfl; kernel_rfl; exact rfl; exact rfl; (exact sel_); (apply qo_ex; (apply ex_fieldAddr; (exact ev_); assumption)); apply sa_one (i := 14); exact rfl; kernel_rfl; exact rfl; (((apply so_store; (exact ev_); (exact ev_); assumption; exact rfl; exact rfl; exact rfl; (focus (repeat (first | exact Turn.here | apply Turn.there | apply Turn.pre))); (focus (repeat (first | exact SetSub.nil | apply SetSub.take | apply SetSub.drop)))))); apply sa_next; (exact sel_); (apply sa_done; kernel_rfl)); rotate_right 1; ((((apply so_call; (exact Ev.func); (focus ((apply EvL.cons; (exact ev_)); exact EvL.nil)); (focus (repeat (first | exact App.nil | apply App.cons))); assumption; exact hcl; (exact sel_); exact rfl; rintro _ _ ⟨p1, cap1, B1, rfl, hr1, rfl⟩; simp only [List.append_assoc, List.cons_append, List.nil_append])))); apply sa_next; (exact sel_); (apply sa_one (i := 10); exact rfl; kernel_rfl; exact rfl; (((apply so_buildS; (focus ((apply EvP.cons; (exact ev_)); exact EvP.nil)); assumption; assumption; assumption; (focus (repeat (first | exact SeqP.nil | (apply SeqP.cons; exact rfl; exact rfl) | exact App.nil | apply App.cons))); exact rfl; exact rfl; exact rfl; intro _))); apply sa_next; (exact sel_); apply sa_one (i := 11); exact rfl; kernel_rfl; exact rfl; (((apply so_appR (et := 91) (s := 2) (ys := [Value.string s, .int .i64 0]); (exact ev_); (exact ev_); exact hr1; (exact sel_); (exact mem_); exact rfl; exact (fun j hj => by rw [Nat.zero_add]); assumption; assumption; assumption; exact rfl; assumption; exact hbb; exact hbb2; exact rfl; exact rfl; exact rfl; intro p3 cap3 H3 hr3))); apply sa_next; (exact sel_); apply sa_take (i := 12); kernel_rfl; exact rfl; kernel_rfl; kernel_rfl; exact rfl; exact rfl; (exact sel_); (apply qo_ex; (apply ex_nilCheck; (exact ev_))); apply sa_take (i := 13); kernel_rfl; exact rfl; kernel_rfl; kernel_rfl; exact rfl; exact rfl; (exact sel_); (apply qo_ex; (apply ex_fieldAddr; (exact ev_); assumption)); apply sa_one (i := 14); exact rfl; kernel_rfl; exact rfl; (((apply so_store; (exact ev_); (exact ev_); assumption; exact rfl; exact rfl; exact rfl; (focus (repeat (first | exact Turn.here | apply Turn.there | apply Turn.pre))); (focus (repeat (first | exact SetSub.nil | apply SetSub.take | apply SetSub.drop)))))); apply sa_next; (exact sel_); (apply sa_done; kernel_rfl))))); (apply And.intro rfl; exact ⟨_, _, _, hr3, at_, held_⟩); (apply And.intro rfl; exact ⟨_, _, _, hr3, at_, held_⟩); (apply And.intro rfl; exact ⟨_, _, _, hr3, at_, held_⟩))
          rintro u f L ⟨rfl, p3, cap3, H3, hr3, a0, ⟨G2, hG2⟩⟩
          apply nm_then
          refine sc_perm hG2 ?_
          clear hG2
          have hlv' := LvIn.of_row (l := lvs.take (k + 1) ++ [(s, 0)]) (by simp) (by simp; omega) (by simp; omega) (by rw [lcells_app]; rfl) hr3
          have hok' := hok _ _ _ (gone ++ z :: zr) _ _ ((T.c.endHd (z :: zr) 3)) hlv' hgN (by simp at hgl hgl3 ⊢; omega) hcN
          have hp' := (hp (lvs.take (k + 1) ++ [(s, 0)]) (.slice p3 (k + 1 + 1) cap3) H3 (gone ++ z :: zr) (.slice p2 (gone.length + (z :: zr).length) cap2) H2 ((T.c.endHd (z :: zr) 3))).append_right [(b6, .cells [Value.slice (some ⟨b7, 0, none⟩) (z :: zr).length cap7].toArray 36), (b7, .cells ((z :: zr).map (Value.int .i64) ++ junk7).toArray 3)]
          simp only [List.append_assoc, List.cons_append, List.nil_append] at hp' ⊢
          (refine sr_ ?_; (refine mv_ ?_); (refine se_ (ex_nilCheck ev_) ?_); (refine se_ (ex_fieldAddr ev_ asm_) ?_); (apply so_store; (exact ev_); (exact Ev.const); assumption; exact rfl; exact rfl; exact rfl; (focus (repeat (first | exact Turn.here | apply Turn.there | apply Turn.pre))); (focus (repeat (first | exact SetSub.nil | apply SetSub.take | apply SetSub.drop)))); refine sn_ ?_; refine sr_ ?_; (refine ac_ ?_); refine sn_ ?_; (apply sc_ret); (apply ret_ok; (focus ((apply Res.tmp; (exact ev_)); exact Res.nil)); (exact ⟨_, hp', _, _, _, _, [_], _, rfl, hR _ _ hB6, ⟨cb, mm, es, cl, _, rfl, hok'⟩, rfl⟩); (exact sel_); (exact appb_)))
  have f_mixed := mixed; have f_en45 := en45; have f_en48 := en48; have f_ty23 := ty23; have f_ty36 := ty36; have f_ty9 := ty9; have f_zero36 := zero36
  refine tri_intro (args := [_, _, _]) Try.func17 rfl Try.ntmps17 rfl (rs := _) rfl rfl fun E R => ?_
  simp only [fr, List.cons_append, List.nil_append]
  (refine sr_ ?_; (apply so_box; (exact ev_); exact rfl; exact rfl; intro _); (apply so_box; (exact ev_); exact rfl; exact rfl; intro _); (apply so_alloc; assumption; exact rfl; intro _); (refine ac_ ?_); refine sn_ ?_; refine sr_ ?_; (refine se_ (ex_load1 ev_ asm_ mem_ nth_) ?_); (refine mv_ ?_); (apply so_ex; (apply ex_makeFunc; ((focus ((apply EvL.cons; (exact ev_)); (apply EvL.cons; (exact ev_)); (apply EvL.cons; (exact ev_)); exact EvL.nil)))); exact rfl))
  rename_i b3 b5 b6
  have c2 := c1 b3 b5 b6
  (apply so_call; (exact Ev.func); (focus ((apply EvL.cons; (exact ev_)); (apply EvL.cons; (exact ev_)); (apply EvL.cons; (exact ev_)); exact EvL.nil)); (focus (repeat (first | exact App.nil | apply App.cons))); assumption; (exact c2); (exact sel_); exact rfl)
  rintro v L ⟨p, n, cap, e, Bg, L2, rfl, hR, hL, rfl⟩
  simp only [List.append_assoc, List.cons_append, List.nil_append]
  ((refine asg_ ?_); refine sn_ ?_; refine sr_ ?_; (refine se_ (ex_load1 ev_ asm_ mem_ nth_) ?_); (refine mv_ ?_); (apply so_store; (exact ev_); (exact ev_); assumption; exact rfl; exact rfl; exact rfl; (focus (repeat (first | exact Turn.here | apply Turn.there | apply Turn.pre))); (focus (repeat (first | exact SetSub.nil | apply SetSub.take | apply SetSub.drop)))); (refine asg_ ?_); refine sn_ ?_; (apply sc_ret); (apply ret_ok; (focus ((apply Res.one; (exact ev_); assumption; (exact mem_); (exact nth_)); (apply Res.tmp; (exact ev_)); exact Res.nil)); (exact ⟨_, _, _, _, Bg, L2, rfl, hR, hL, rfl⟩); (exact sel_); (exact appb_)))
end Go.Proofs.Ytfkpjnomfmjplaa
namespace Go.Proofs.Ytfkpjnomfmjplaa
open Go.Sym
/-- one transaction is taken out -/
theorem TsOk.del {K : Nat} {T : Ts} {es es' : Array MapEntry} {cl : Nat} {ρ : Int → TM} (h : TsOk K T es cl ρ) {id : Int} (hM : MapOf (Value.int .i64) (delV (tml ρ T.l) id) es' cl) {c : Clk} (hc : ClkOk c) : TsOk K { T with l := delT T.l id, c := c } es' cl ρ := by
  have hs : ∀ x ∈ delT T.l id, x ∈ T.l := fun x hx => (List.mem_filter.1 hx).1
  refine ⟨?_, fun x hx => h.tx x (hs x hx), fun x hx => h.ids x (hs x hx), h.last, fun x hx => h.gone x (hs x hx), hc, Nat.le_trans (List.length_filter_le _ _) h.len⟩
  have e : delV (tml ρ T.l) id = tml ρ (delT T.l id) := by
    unfold delV tml delT
    rw [List.filter_map]
    congr 1
    apply List.filter_congr
    intro x _
    simp
  exact e ▸ hM
theorem endHd_ck {c : Clk} (hc : ClkOk c) (g : List Int) (e : Int) : ClkOk (c.endHd g e) := by
  unfold Clk.endHd; split
  · exact hc
  · exact endAt_ok hc _ _
/-- what End hands out -/
def DoneR (T : Ts) (id : Int) (co : Bool) (e : Int) (sv : Value) (B : List Blk) : Prop := ∀ t, findT T.l id = some t → ¬ (co = true ∧ t.failed = true) → e = 0 ∧ SlI (xidsOf t.lvs) sv B
theorem DoneR.no {T : Ts} {id : Int} {co : Bool} {e : Int} {sv : Value} {B : List Blk} (hf : findT T.l id = none) : DoneR T id co e sv B := fun t h _ => by rw [hf] at h; cases h
theorem DoneR.bad {T : Ts} {id : Int} {co : Bool} {e : Int} {sv : Value} {B : List Blk} {t : Tx} (hf : findT T.l id = some t) (hc : co = true ∧ t.failed = true) : DoneR T id co e sv B := fun t' h h2 => by rw [hf] at h; cases h; exact absurd hc h2
theorem DoneR.ok {T : Ts} {id : Int} {co : Bool} {sv : Value} {B : List Blk} {t : Tx} (hf : findT T.l id = some t) (h : SlI (xidsOf t.lvs) sv B) : DoneR T id co 0 sv B := fun t' h' _ => by rw [hf] at h'; cases h'; exact ⟨rfl, h⟩
set_option maxHeartbeats 8000000 in
theorem done_tri {K : Nat} {T : Ts} {tb : Nat} {L : List Blk} (h : TsIn K T tb L) (id : Int) (co : Bool) : Tri Try.prog 13 #[tP tb, .int .i64 id, .bool co] L fun v L' => ∃ p n cap e B L2, v = .tuple #[.slice p n cap, .int .i64 e] ∧ DoneR T id co e (.slice p n cap) B ∧ TsIn K (T.done id co) tb L2 ∧ L' = B ++ L2 := by
  obtain ⟨cb, mm, es, cl, ρ, rfl, hI⟩ := h
  have f_mixed := mixed; have f_en41 := en41; have f_en42 := en42; have f_en43 := en43; have f_en44 := en44; have f_fo74_0 := fo74_0; have f_fo74_1 := fo74_1; have f_fo80_2 := fo80_2; have f_fo80_4 := fo80_4; have f_ty23 := ty23; have f_ty3 := ty3; have f_ty4 := ty4; have f_ty53 := ty53; have f_ty72 := ty72; have f_ty76 := ty76; have f_ty77 := ty77; have f_un_72 : Und Try.prog 72 _ := ⟨Try.underlying72⟩; have f_un_76 : Und Try.prog 76 _ := ⟨Try.underlying76⟩; have f_zero3 := zero3; have f_zero76 := zero76; have f_zv76 := zv76
  have f_kl := KL3
  have f_M := hI.map
  have c1 := at_tri hI tb cb mm id
  unfold ptrT at c1
  refine tri_perm' ?_
  cases hf : findT T.l id with
  | none =>
    rw [hf] at c1
    simp only [Option.map_none, Option.getD_none] at c1
    have e : T.done id co = T := by unfold Ts.done; rw [hf]
    rw [e]
    unfold TsB
    refine tri_marks (args := [_, _, _]) Try.func13 rfl Try.ntmps13 rfl (rs := _) rfl rfl fun E R => ?_
    simp only [fr, List.cons_append, List.nil_append]
    ((apply sm_seq); (apply sm_region; exact rfl; (repeat (first | exact noOut_ret | exact noOut_retM | exact noOut_rnd | apply noOut_then | apply noOut_block))); (apply so_box; (exact ev_); exact rfl; exact rfl; intro _); (refine ac_ ?_); (refine ac_ ?_); refine sn_ ?_; (apply sm_seq); (apply sm_region; exact rfl; (repeat (first | exact noOut_ret | exact noOut_retM | exact noOut_rnd | apply noOut_then | apply noOut_block))); (refine se_ (ex_load1 ev_ asm_ mem_ nth_) ?_); (refine mv_ ?_); (apply so_callq; (exact Ev.func); (focus ((apply EvL.cons; (exact ev_)); (apply EvL.cons; (exact ev_)); exact EvL.nil)); (focus (repeat (first | exact App.nil | apply App.cons))); assumption; exact c1; (exact sel_); exact rfl); (refine asg_ ?_); refine sn_ ?_; (apply sm_seq); (apply sm_block); (apply sm_seq); (apply sm_region; exact rfl; (repeat (first | exact noOut_ret | exact noOut_retM | exact noOut_rnd | apply noOut_then | apply noOut_block))); (refine mv_ ?_); (refine se_ (ex_eqp_t ev_ .const asm_) ?_); (refine asg_ ?_); refine sn_ ?_; (apply sm_cond_true; (exact ev_)); (apply sm_seq); (apply sm_region; exact rfl; (repeat (first | exact noOut_ret | exact noOut_retM | exact noOut_rnd | apply noOut_then | apply noOut_block))); (refine ac_ ?_); (refine ac_ ?_); refine sn_ ?_; (apply sm_ret); (apply rt_block); (apply rt_then); (apply retM_nil; apply ret_ok; (focus ((apply Res.tmp; (exact ev_)); (apply Res.tmp; (exact ev_)); exact Res.nil)); (exact ⟨_, .refl _, _, _, _, _, [], _, rfl, .no hf, ⟨cb, mm, es, cl, ρ, rfl, hI⟩, rfl⟩); (exact sel_); (exact appb_)))
  | some t =>
    rw [hf] at c1
    simp only [Option.map_some, Option.getD_some] at c1
    have htm := (findT_some hf).1
    have hid := (findT_some hf).2
    have htx := hI.tx t htm
    rw [hid] at htx
    obtain ⟨PO, h1, hup, hdel⟩ := TsB_split (tb := tb) (cb := cb) (mm := mm) (es := es) (cl := cl) (ρ := ρ) hI.nd hf
    obtain ⟨b, lb, cap, junk, sp, SB, gv, GB, hm, hj, hne, hle⟩ := htx.open
    unfold tblks thdr at h1
    rw [hm] at h1 c1
    simp only [List.append_assoc, List.cons_append, List.nil_append] at h1
    refine tri_perm h1 ?_
    by_cases hcf : co = true ∧ t.failed = true
    · have e : T.done id co = T := by unfold Ts.done; rw [hf]; dsimp only; rw [if_pos hcf]
      rw [e]
      have hbad : ∀ e sv B, DoneR T id co e sv B := fun _ _ _ => .bad hf hcf
      obtain ⟨rfl, hfl⟩ := hcf
      rw [hfl] at h1 ⊢
      refine tri_marks (args := [_, _, _]) Try.func13 rfl Try.ntmps13 rfl (rs := _) rfl rfl fun E R => ?_
      simp only [fr, List.cons_append, List.nil_append]
      simp only [List.append_assoc, List.cons_append, List.nil_append]
      ((apply sm_seq); (apply sm_region; exact rfl; (repeat (first | exact noOut_ret | exact noOut_retM | exact noOut_rnd | apply noOut_then | apply noOut_block))); (apply so_box; (exact ev_); exact rfl; exact rfl; intro _); (refine ac_ ?_); (refine ac_ ?_); refine sn_ ?_; (apply sm_seq); (apply sm_region; exact rfl; (repeat (first | exact noOut_ret | exact noOut_retM | exact noOut_rnd | apply noOut_then | apply noOut_block))); (refine se_ (ex_load1 ev_ asm_ mem_ nth_) ?_); (refine mv_ ?_); (apply so_callq; (exact Ev.func); (focus ((apply EvL.cons; (exact ev_)); (apply EvL.cons; (exact ev_)); exact EvL.nil)); (focus (repeat (first | exact App.nil | apply App.cons))); assumption; exact c1; (exact sel_); exact rfl); (refine asg_ ?_); refine sn_ ?_; (apply sm_seq); (apply sm_block); (apply sm_seq); (apply sm_region; exact rfl; (repeat (first | exact noOut_ret | exact noOut_retM | exact noOut_rnd | apply noOut_then | apply noOut_block))); (refine mv_ ?_); (refine se_ (ex_eqp_f ev_ .const asm_) ?_); (refine asg_ ?_); refine sn_ ?_; (apply sm_cond_false; (exact ev_)); (apply sm_seq); (apply sm_region; exact rfl; (repeat (first | exact noOut_ret | exact noOut_retM | exact noOut_rnd | apply noOut_then | apply noOut_block))); (refine mv_ ?_); (refine mv_ ?_); (refine wt_ ?_); (refine mv_ ?_); (refine wt_ ?_); (refine se_ (ex_nilCheck ev_) ?_); (refine wt_ ?_); (refine se_ (ex_fieldAddr ev_ asm_) ?_); (refine wt_ ?_); (refine se_ (ex_load1 ev_ asm_ mem_ nth_) ?_); (refine se_ (ex_pick_t ev_ ev_) ?_); (refine asg_ ?_); refine sn_ ?_; (apply sm_cond_true; (exact ev_)); (apply sm_seq); (apply sm_region; exact rfl; (repeat (first | exact noOut_ret | exact noOut_retM | exact noOut_rnd | apply noOut_then | apply noOut_block))); (refine ac_ ?_); (refine ac_ ?_); refine sn_ ?_; (apply sm_ret); (apply rt_block); (apply rt_then); (apply retM_nil; apply ret_ok; (focus ((apply Res.tmp; (exact ev_)); (apply Res.tmp; (exact ev_)); exact Res.nil)); (exact ⟨_, h1.symm, _, _, _, _, [], _, rfl, hbad _ _ _, ⟨cb, mm, es, cl, ρ, rfl, hI⟩, rfl⟩); (exact sel_); (exact appb_)))
    · have e : T.done id co = { T with l := delT T.l id, c := T.c.endHd (xidsOf t.lvs) (if co then 2 else 3) } := by unfold Ts.done; rw [hf]; dsimp only; rw [if_neg hcf]; rfl
      have hg9 := fun bx => nums_gives (bx := bx) (lb := lb) (o := 0) (cap := cap) (T := 91) (fz := (0, 0)) (lvAt_mk t.lvs junk) (by omega)
      refine tri_marks (args := [_, _, _]) Try.func13 rfl Try.ntmps13 rfl (rs := _) rfl rfl fun E R => ?_
      simp only [fr, List.cons_append, List.nil_append]
      simp only [List.append_assoc, List.cons_append, List.nil_append]
      have hx9 := fun bx => xids_tri (bx := bx) (lb := lb) (cap := cap) (T := 91) (fz := (0, 0)) (lvAt_mk t.lvs junk) (by omega)
      have hB' : ∀ es' c', TsB { T with l := delT T.l id, c := c' } tb cb mm es' cl ρ = hdr T tb cb mm :: (mm, .map es' cl) :: cB cb c' :: PO := fun es' c' => by unfold TsB; rw [hdel]
      rw [e]
      cases co with
      | true =>
        have hfl : t.failed = false := by
          cases hfl : t.failed with
          | true => exact absurd ⟨rfl, hfl⟩ hcf
          | false => rfl
        rw [hfl]
        simp only [if_true]
        ((apply sm_seq); (apply sm_region; exact rfl; (repeat (first | exact noOut_ret | exact noOut_retM | exact noOut_rnd | apply noOut_then | apply noOut_block))); (apply so_box; (exact ev_); exact rfl; exact rfl; intro _); (refine ac_ ?_); (refine ac_ ?_); refine sn_ ?_; (apply sm_seq); (apply sm_region; exact rfl; (repeat (first | exact noOut_ret | exact noOut_retM | exact noOut_rnd | apply noOut_then | apply noOut_block))); (refine se_ (ex_load1 ev_ asm_ mem_ nth_) ?_); (refine mv_ ?_); (apply so_callq; (exact Ev.func); (focus ((apply EvL.cons; (exact ev_)); (apply EvL.cons; (exact ev_)); exact EvL.nil)); (focus (repeat (first | exact App.nil | apply App.cons))); assumption; exact c1; (exact sel_); exact rfl); (refine asg_ ?_); refine sn_ ?_; (apply sm_seq); (apply sm_block); (apply sm_seq); (apply sm_region; exact rfl; (repeat (first | exact noOut_ret | exact noOut_retM | exact noOut_rnd | apply noOut_then | apply noOut_block))); (refine mv_ ?_); (refine se_ (ex_eqp_f ev_ .const asm_) ?_); (refine asg_ ?_); refine sn_ ?_; (apply sm_cond_false; (exact ev_)); (apply sm_seq); (apply sm_region; exact rfl; (repeat (first | exact noOut_ret | exact noOut_retM | exact noOut_rnd | apply noOut_then | apply noOut_block))); (refine mv_ ?_); (refine mv_ ?_); (refine wt_ ?_); (refine mv_ ?_); (refine wt_ ?_); (refine se_ (ex_nilCheck ev_) ?_); (refine wt_ ?_); (refine se_ (ex_fieldAddr ev_ asm_) ?_); (refine wt_ ?_); (refine se_ (ex_load1 ev_ asm_ mem_ nth_) ?_); (refine se_ (ex_pick_t ev_ ev_) ?_); (refine asg_ ?_); refine sn_ ?_; (apply sm_cond_false; (exact ev_)); (apply sm_skip); (apply nm_block); (apply nm_then); (apply sm_seq); (apply sm_region; exact rfl; (repeat (first | exact noOut_ret | exact noOut_retM | exact noOut_rnd | apply noOut_then | apply noOut_block))); (apply so_alloc; assumption; exact rfl; intro _); (apply so_store; (exact ev_); (exact Ev.const); assumption; exact rfl; exact rfl; exact rfl; (focus (repeat (first | exact Turn.here | apply Turn.there | apply Turn.pre))); (focus (repeat (first | exact SetSub.nil | apply SetSub.take | apply SetSub.drop)))); refine sn_ ?_; (apply sm_seq); (apply sm_seq); (apply sm_region; exact rfl; (repeat (first | exact noOut_ret | exact noOut_retM | exact noOut_rnd | apply noOut_then | apply noOut_block))); (refine mv_ ?_); refine sn_ ?_; (apply sm_cond_true; (exact ev_)); (apply sm_region; exact rfl; (repeat (first | exact noOut_ret | exact noOut_retM | exact noOut_rnd | apply noOut_then | apply noOut_block))); (apply so_store; (exact ev_); (exact Ev.const); assumption; exact rfl; exact rfl; exact rfl; (focus (repeat (first | exact Turn.here | apply Turn.there | apply Turn.pre))); (focus (repeat (first | exact SetSub.nil | apply SetSub.take | apply SetSub.drop)))); refine sn_ ?_; (apply sm_seq); (apply sm_seq); (apply sm_region; exact rfl; (repeat (first | exact noOut_ret | exact noOut_retM | exact noOut_rnd | apply noOut_then | apply noOut_block))); (refine mv_ ?_); (refine se_ (ex_nilCheck ev_) ?_); (refine se_ (ex_fieldAddr ev_ asm_) ?_); (refine se_ (ex_load1 ev_ asm_ mem_ nth_) ?_))
        (apply so_call; (exact Ev.func); (focus ((apply EvL.cons; (exact ev_)); exact EvL.nil)); (focus (repeat (first | exact App.nil | apply App.cons))); assumption; (exact numbers_tri _ _ _); (exact sel_); exact rfl)
        rintro v L ⟨bx, rfl, rfl⟩
        simp only [List.append_assoc, List.cons_append, List.nil_append]
        (refine sn_ ?_; (apply sm_block))
        rename_i b3 b9
        refine sm_range1 (by (exact ev_)) en69 (hg9 bx) rfl rfl
          (fun i Li => i = 0 ∧ ∃ G, Li.Perm ((bx, .cells [Value.slice (some ⟨lb, 0, none⟩) t.lvs.length cap].toArray 77) :: (b9, .cells [Value.int .i64 2].toArray 3) :: (b3, .cells [tP tb].toArray 23) :: hdr T tb cb mm :: (mm, .map es cl) :: cB cb T.c :: (b, .cells [.int .i64 t.mode, sp, .slice (some ⟨lb, 0, none⟩) t.lvs.length cap, gv, .bool false, .bool t.prepared, .string t.name].toArray 80) :: (lb, .cells (lcells t.lvs ++ junk).toArray 91) :: (SB ++ (GB ++ (PO ++ (G ++ R)))))) (fun e Li => e = .exit 1 ∧ ∃ G, Li.Perm ((bx, .cells [Value.slice (some ⟨lb, 0, none⟩) t.lvs.length cap].toArray 77) :: (b9, .cells [Value.int .i64 2].toArray 3) :: (b3, .cells [tP tb].toArray 23) :: hdr T tb cb mm :: (mm, .map es cl) :: cB cb (T.c.endHd (xidsOf t.lvs) 2) :: (b, .cells [.int .i64 t.mode, sp, .slice (some ⟨lb, 0, none⟩) t.lvs.length cap, gv, .bool false, .bool t.prepared, .string t.name].toArray 80) :: (lb, .cells (lcells t.lvs ++ junk).toArray 91) :: (SB ++ (GB ++ (PO ++ (G ++ R)))))) ?_ ?_ ?_ ?_ ?_ ?_
        · rintro i Li R' ⟨_, G, hp⟩
          exact ⟨List.mem_append_left _ (hp.mem_iff.2 (by (exact mem_))), List.mem_append_left _ (hp.mem_iff.2 (by (exact mem_)))⟩
        · refine ⟨rfl, [], ?_⟩
          simp only [List.nil_append]
          exact Sel.perm0 (by (exact sel_))
        · rintro lp i x Li R' hx ⟨rfl, G, hp⟩
          rw [List.getElem?_map] at hx
          obtain ⟨z, hz, rfl⟩ := Option.map_eq_some_iff.1 hx
          have hend : Tri Try.prog 43 #[cP cb, .int .i64 z, .int .i64 2] [cB cb T.c] fun v L => (∃ e, v = .int .i64 e) ∧ L = [cB cb (T.c.endHd (xidsOf t.lvs) 2)] := by
            cases hxs : xidsOf t.lvs with
            | nil => rw [hxs] at hz; cases hz
            | cons y ys =>
              rw [hxs] at hz
              injection hz with hz
              subst hz
              exact end_tri hI.ck cb _ _
          refine sm_perm (hp.append_right R') ?_
          simp only [List.append_assoc, List.cons_append, List.nil_append]
          ((apply sm_block); (apply sm_seq); (apply sm_tail (id := 11) 6; assumption; kernel_rfl; rfl; rfl; rfl; (repeat (first | exact noOut_ret | exact noOut_retM | exact noOut_rnd | apply noOut_then | apply noOut_block))); (refine qe_ (ex_load1 ev_ asm_ mem_ nth_) ?_); (refine qe_ (ex_nilCheck ev_) ?_); (refine qe_ (ex_fieldAddr ev_ asm_) ?_); (refine qe_ (ex_load1 ev_ asm_ mem_ nth_) ?_); (refine qe_ (ex_move ev_) ?_); (refine qe_ (ex_load1 ev_ asm_ mem_ nth_) ?_); (apply sq_nil); (apply so_call; (exact Ev.func); (focus ((apply EvL.cons; (exact ev_)); (apply EvL.cons; (exact ev_)); (apply EvL.cons; (exact ev_)); exact EvL.nil)); (focus (repeat (first | exact App.nil | apply App.cons))); assumption; exact hend; (exact sel_); exact rfl; rintro _ _ ⟨⟨_, rfl⟩, rfl⟩; simp only [List.append_assoc, List.cons_append, List.nil_append]); refine sn_ ?_; (apply sm_exit); (apply et_miss; exact rfl))
          refine rnd_exit ⟨rfl, G, .refl _⟩ (by simp only [List.append_assoc, List.cons_append, List.nil_append]; exact rfl) (by (exact sel_))
        · rintro k Ld ⟨h0, G, hp⟩
          have hxs : xidsOf t.lvs = [] := List.eq_nil_of_length_eq_zero (by simpa using h0)
          have hck : ClkOk (T.c.endHd (xidsOf t.lvs) 2) := by rw [hxs]; exact hI.ck
          have hcc : T.c = T.c.endHd (xidsOf t.lvs) 2 := by rw [hxs]; rfl
          have hp : Ld.Perm ((bx, .cells [Value.slice (some ⟨lb, 0, none⟩) t.lvs.length cap].toArray 77) :: (b9, .cells [Value.int .i64 2].toArray 3) :: (b3, .cells [tP tb].toArray 23) :: hdr T tb cb mm :: (mm, .map es cl) :: cB cb (T.c.endHd (xidsOf t.lvs) 2) :: (b, .cells [.int .i64 t.mode, sp, .slice (some ⟨lb, 0, none⟩) t.lvs.length cap, gv, .bool false, .bool t.prepared, .string t.name].toArray 80) :: (lb, .cells (lcells t.lvs ++ junk).toArray 91) :: (SB ++ (GB ++ (PO ++ (G ++ R))))) := by rw [← hcc]; exact hp
          apply nm_block
          apply nm_then
          refine sm_perm (hp.cons _) ?_
          ((apply sm_seq); (apply sm_region; exact rfl; (repeat (first | exact noOut_ret | exact noOut_retM | exact noOut_rnd | apply noOut_then | apply noOut_block))); (refine se_ (ex_load1 ev_ asm_ mem_ nth_) ?_); (refine se_ (ex_nilCheck ev_) ?_); (refine se_ (ex_fieldAddr ev_ asm_) ?_); (refine se_ (ex_load1 ev_ asm_ mem_ nth_) ?_); (refine mv_ ?_); (apply so_del; (exact ev_); (intro _ _; (focus (repeat (first | exact Turn.here | apply Turn.there | apply Turn.pre)))); assumption; (exact ev_); (first | exact keyEq .. | exact rfl); assumption; assumption; intro _ _ _); refine sn_ ?_; (apply sm_seq); (apply sm_region; exact rfl; (repeat (first | exact noOut_ret | exact noOut_retM | exact noOut_rnd | apply noOut_then | apply noOut_block))); (refine mv_ ?_); (refine se_ (ex_nilCheck ev_) ?_); (refine se_ (ex_fieldAddr ev_ asm_) ?_); (refine se_ (ex_load1 ev_ asm_ mem_ nth_) ?_))
          rename_i es' hM' _
          (apply so_call; (exact Ev.func); (focus ((apply EvL.cons; (exact ev_)); exact EvL.nil)); (focus (repeat (first | exact App.nil | apply App.cons))); assumption; (exact numbers_tri _ _ _); (exact sel_); exact rfl)
          rintro v L ⟨bx2, rfl, rfl⟩
          simp only [List.append_assoc, List.cons_append, List.nil_append]
          skip
          (apply so_call; (exact Ev.func); (focus ((apply EvL.cons; (exact ev_)); exact EvL.nil)); (focus (repeat (first | exact App.nil | apply App.cons))); assumption; (exact hx9 bx2); (exact sel_); exact rfl)
          rintro v L ⟨B, ⟨⟨p', cap', rfl, hrow⟩, _⟩, rfl⟩
          simp only [List.append_assoc, List.cons_append, List.nil_append]
          ((refine asg_ ?_); (refine ac_ ?_); refine sn_ ?_; (apply sm_ret); (apply retM_mark; (exact pick_); apply ret_ok; (focus ((apply Res.tmp; (exact ev_)); (apply Res.tmp; (exact ev_)); exact Res.nil)); (exact ⟨_, (List.Perm.of_eq (hB' es' _).symm).append_left B, _, _, _, _, B, _, rfl, .ok hf ⟨_, _, rfl, hrow⟩, ⟨cb, mm, es', cl, ρ, rfl, hI.del hM' hck⟩, rfl⟩); (exact sel_); (exact appb_)))
        · intro _ _ h; cases h.1
        · rintro k eid Ld ⟨h0, G, hp⟩
          injection h0 with h0
          subst h0
          have hck : ClkOk (T.c.endHd (xidsOf t.lvs) 2) := (endHd_ck hI.ck _ _)
          apply et_hit
          apply nm_then
          refine sm_perm (hp.cons _) ?_
          ((apply sm_seq); (apply sm_region; exact rfl; (repeat (first | exact noOut_ret | exact noOut_retM | exact noOut_rnd | apply noOut_then | apply noOut_block))); (refine se_ (ex_load1 ev_ asm_ mem_ nth_) ?_); (refine se_ (ex_nilCheck ev_) ?_); (refine se_ (ex_fieldAddr ev_ asm_) ?_); (refine se_ (ex_load1 ev_ asm_ mem_ nth_) ?_); (refine mv_ ?_); (apply so_del; (exact ev_); (intro _ _; (focus (repeat (first | exact Turn.here | apply Turn.there | apply Turn.pre)))); assumption; (exact ev_); (first | exact keyEq .. | exact rfl); assumption; assumption; intro _ _ _); refine sn_ ?_; (apply sm_seq); (apply sm_region; exact rfl; (repeat (first | exact noOut_ret | exact noOut_retM | exact noOut_rnd | apply noOut_then | apply noOut_block))); (refine mv_ ?_); (refine se_ (ex_nilCheck ev_) ?_); (refine se_ (ex_fieldAddr ev_ asm_) ?_); (refine se_ (ex_load1 ev_ asm_ mem_ nth_) ?_))
          rename_i es' hM' _
          (apply so_call; (exact Ev.func); (focus ((apply EvL.cons; (exact ev_)); exact EvL.nil)); (focus (repeat (first | exact App.nil | apply App.cons))); assumption; (exact numbers_tri _ _ _); (exact sel_); exact rfl)
          rintro v L ⟨bx2, rfl, rfl⟩
          simp only [List.append_assoc, List.cons_append, List.nil_append]
          skip
          (apply so_call; (exact Ev.func); (focus ((apply EvL.cons; (exact ev_)); exact EvL.nil)); (focus (repeat (first | exact App.nil | apply App.cons))); assumption; (exact hx9 bx2); (exact sel_); exact rfl)
          rintro v L ⟨B, ⟨⟨p', cap', rfl, hrow⟩, _⟩, rfl⟩
          simp only [List.append_assoc, List.cons_append, List.nil_append]
          ((refine asg_ ?_); (refine ac_ ?_); refine sn_ ?_; (apply sm_ret); (apply retM_mark; (exact pick_); apply ret_ok; (focus ((apply Res.tmp; (exact ev_)); (apply Res.tmp; (exact ev_)); exact Res.nil)); (exact ⟨_, (List.Perm.of_eq (hB' es' _).symm).append_left B, _, _, _, _, B, _, rfl, .ok hf ⟨_, _, rfl, hrow⟩, ⟨cb, mm, es', cl, ρ, rfl, hI.del hM' hck⟩, rfl⟩); (exact sel_); (exact appb_)))
      | false =>
        simp only [Bool.false_eq_true, if_false]
        ((apply sm_seq); (apply sm_region; exact rfl; (repeat (first | exact noOut_ret | exact noOut_retM | exact noOut_rnd | apply noOut_then | apply noOut_block))); (apply so_box; (exact ev_); exact rfl; exact rfl; intro _); (refine ac_ ?_); (refine ac_ ?_); refine sn_ ?_; (apply sm_seq); (apply sm_region; exact rfl; (repeat (first | exact noOut_ret | exact noOut_retM | exact noOut_rnd | apply noOut_then | apply noOut_block))); (refine se_ (ex_load1 ev_ asm_ mem_ nth_) ?_); (refine mv_ ?_); (apply so_callq; (exact Ev.func); (focus ((apply EvL.cons; (exact ev_)); (apply EvL.cons; (exact ev_)); exact EvL.nil)); (focus (repeat (first | exact App.nil | apply App.cons))); assumption; exact c1; (exact sel_); exact rfl); (refine asg_ ?_); refine sn_ ?_; (apply sm_seq); (apply sm_block); (apply sm_seq); (apply sm_region; exact rfl; (repeat (first | exact noOut_ret | exact noOut_retM | exact noOut_rnd | apply noOut_then | apply noOut_block))); (refine mv_ ?_); (refine se_ (ex_eqp_f ev_ .const asm_) ?_); (refine asg_ ?_); refine sn_ ?_; (apply sm_cond_false; (exact ev_)); (apply sm_seq); (apply sm_region; exact rfl; (repeat (first | exact noOut_ret | exact noOut_retM | exact noOut_rnd | apply noOut_then | apply noOut_block))); (refine mv_ ?_); (refine mv_ ?_); (refine sk_ ?_); (refine sk_ ?_); (refine sk_ ?_); (refine sk_ ?_); (refine se_ (ex_pick_f ev_ .const) ?_); (refine asg_ ?_); refine sn_ ?_; (apply sm_cond_false; (exact ev_)); (apply sm_skip); (apply nm_block); (apply nm_then); (apply sm_seq); (apply sm_region; exact rfl; (repeat (first | exact noOut_ret | exact noOut_retM | exact noOut_rnd | apply noOut_then | apply noOut_block))); (apply so_alloc; assumption; exact rfl; intro _); (apply so_store; (exact ev_); (exact Ev.const); assumption; exact rfl; exact rfl; exact rfl; (focus (repeat (first | exact Turn.here | apply Turn.there | apply Turn.pre))); (focus (repeat (first | exact SetSub.nil | apply SetSub.take | apply SetSub.drop)))); refine sn_ ?_; (apply sm_seq); (apply sm_seq); (apply sm_region; exact rfl; (repeat (first | exact noOut_ret | exact noOut_retM | exact noOut_rnd | apply noOut_then | apply noOut_block))); (refine mv_ ?_); refine sn_ ?_; (apply sm_cond_false; (exact ev_)); (apply sm_skip); (apply nm_then); (apply sm_seq); (apply sm_seq); (apply sm_region; exact rfl; (repeat (first | exact noOut_ret | exact noOut_retM | exact noOut_rnd | apply noOut_then | apply noOut_block))); (refine mv_ ?_); (refine se_ (ex_nilCheck ev_) ?_); (refine se_ (ex_fieldAddr ev_ asm_) ?_); (refine se_ (ex_load1 ev_ asm_ mem_ nth_) ?_))
        (apply so_call; (exact Ev.func); (focus ((apply EvL.cons; (exact ev_)); exact EvL.nil)); (focus (repeat (first | exact App.nil | apply App.cons))); assumption; (exact numbers_tri _ _ _); (exact sel_); exact rfl)
        rintro v L ⟨bx, rfl, rfl⟩
        simp only [List.append_assoc, List.cons_append, List.nil_append]
        (refine sn_ ?_; (apply sm_block))
        rename_i b3 b9
        refine sm_range1 (by (exact ev_)) en69 (hg9 bx) rfl rfl
          (fun i Li => i = 0 ∧ ∃ G, Li.Perm ((bx, .cells [Value.slice (some ⟨lb, 0, none⟩) t.lvs.length cap].toArray 77) :: (b9, .cells [Value.int .i64 3].toArray 3) :: (b3, .cells [tP tb].toArray 23) :: hdr T tb cb mm :: (mm, .map es cl) :: cB cb T.c :: (b, .cells [.int .i64 t.mode, sp, .slice (some ⟨lb, 0, none⟩) t.lvs.length cap, gv, .bool t.failed, .bool t.prepared, .string t.name].toArray 80) :: (lb, .cells (lcells t.lvs ++ junk).toArray 91) :: (SB ++ (GB ++ (PO ++ (G ++ R)))))) (fun e Li => e = .exit 1 ∧ ∃ G, Li.Perm ((bx, .cells [Value.slice (some ⟨lb, 0, none⟩) t.lvs.length cap].toArray 77) :: (b9, .cells [Value.int .i64 3].toArray 3) :: (b3, .cells [tP tb].toArray 23) :: hdr T tb cb mm :: (mm, .map es cl) :: cB cb (T.c.endHd (xidsOf t.lvs) 3) :: (b, .cells [.int .i64 t.mode, sp, .slice (some ⟨lb, 0, none⟩) t.lvs.length cap, gv, .bool t.failed, .bool t.prepared, .string t.name].toArray 80) :: (lb, .cells (lcells t.lvs ++ junk).toArray 91) :: (SB ++ (GB ++ (PO ++ (G ++ R)))))) ?_ ?_ ?_ ?_ ?_ ?_
        · rintro i Li R' ⟨_, G, hp⟩
          exact ⟨List.mem_append_left _ (hp.mem_iff.2 (by (exact mem_))), List.mem_append_left _ (hp.mem_iff.2 (by (exact mem_)))⟩
        · refine ⟨rfl, [], ?_⟩
          simp only [List.nil_append]
          exact Sel.perm0 (by (exact sel_))
        · rintro lp i x Li R' hx ⟨rfl, G, hp⟩
          rw [List.getElem?_map] at hx
          obtain ⟨z, hz, rfl⟩ := Option.map_eq_some_iff.1 hx
          have hend : Tri Try.prog 43 #[cP cb, .int .i64 z, .int .i64 3] [cB cb T.c] fun v L => (∃ e, v = .int .i64 e) ∧ L = [cB cb (T.c.endHd (xidsOf t.lvs) 3)] := by
            cases hxs : xidsOf t.lvs with
            | nil => rw [hxs] at hz; cases hz
            | cons y ys =>
              rw [hxs] at hz
              injection hz with hz
              subst hz
              exact end_tri hI.ck cb _ _
          refine sm_perm (hp.append_right R') ?_
          simp only [List.append_assoc, List.cons_append, List.nil_append]
          ((apply sm_block); (apply sm_seq); (apply sm_tail (id := 11) 6; assumption; kernel_rfl; rfl; rfl; rfl; (repeat (first | exact noOut_ret | exact noOut_retM | exact noOut_rnd | apply noOut_then | apply noOut_block))); (refine qe_ (ex_load1 ev_ asm_ mem_ nth_) ?_); (refine qe_ (ex_nilCheck ev_) ?_); (refine qe_ (ex_fieldAddr ev_ asm_) ?_); (refine qe_ (ex_load1 ev_ asm_ mem_ nth_) ?_); (refine qe_ (ex_move ev_) ?_); (refine qe_ (ex_load1 ev_ asm_ mem_ nth_) ?_); (apply sq_nil); (apply so_call; (exact Ev.func); (focus ((apply EvL.cons; (exact ev_)); (apply EvL.cons; (exact ev_)); (apply EvL.cons; (exact ev_)); exact EvL.nil)); (focus (repeat (first | exact App.nil | apply App.cons))); assumption; exact hend; (exact sel_); exact rfl; rintro _ _ ⟨⟨_, rfl⟩, rfl⟩; simp only [List.append_assoc, List.cons_append, List.nil_append]); refine sn_ ?_; (apply sm_exit); (apply et_miss; exact rfl))
          refine rnd_exit ⟨rfl, G, .refl _⟩ (by simp only [List.append_assoc, List.cons_append, List.nil_append]; exact rfl) (by (exact sel_))
        · rintro k Ld ⟨h0, G, hp⟩
          have hxs : xidsOf t.lvs = [] := List.eq_nil_of_length_eq_zero (by simpa using h0)
          have hck : ClkOk (T.c.endHd (xidsOf t.lvs) 3) := by rw [hxs]; exact hI.ck
          have hcc : T.c = T.c.endHd (xidsOf t.lvs) 3 := by rw [hxs]; rfl
          have hp : Ld.Perm ((bx, .cells [Value.slice (some ⟨lb, 0, none⟩) t.lvs.length cap].toArray 77) :: (b9, .cells [Value.int .i64 3].toArray 3) :: (b3, .cells [tP tb].toArray 23) :: hdr T tb cb mm :: (mm, .map es cl) :: cB cb (T.c.endHd (xidsOf t.lvs) 3) :: (b, .cells [.int .i64 t.mode, sp, .slice (some ⟨lb, 0, none⟩) t.lvs.length cap, gv, .bool t.failed, .bool t.prepared, .string t.name].toArray 80) :: (lb, .cells (lcells t.lvs ++ junk).toArray 91) :: (SB ++ (GB ++ (PO ++ (G ++ R))))) := by rw [← hcc]; exact hp
          apply nm_block
          apply nm_then
          refine sm_perm (hp.cons _) ?_
          ((apply sm_seq); (apply sm_region; exact rfl; (repeat (first | exact noOut_ret | exact noOut_retM | exact noOut_rnd | apply noOut_then | apply noOut_block))); (refine se_ (ex_load1 ev_ asm_ mem_ nth_) ?_); (refine se_ (ex_nilCheck ev_) ?_); (refine se_ (ex_fieldAddr ev_ asm_) ?_); (refine se_ (ex_load1 ev_ asm_ mem_ nth_) ?_); (refine mv_ ?_); (apply so_del; (exact ev_); (intro _ _; (focus (repeat (first | exact Turn.here | apply Turn.there | apply Turn.pre)))); assumption; (exact ev_); (first | exact keyEq .. | exact rfl); assumption; assumption; intro _ _ _); refine sn_ ?_; (apply sm_seq); (apply sm_region; exact rfl; (repeat (first | exact noOut_ret | exact noOut_retM | exact noOut_rnd | apply noOut_then | apply noOut_block))); (refine mv_ ?_); (refine se_ (ex_nilCheck ev_) ?_); (refine se_ (ex_fieldAddr ev_ asm_) ?_); (refine se_ (ex_load1 ev_ asm_ mem_ nth_) ?_))
          rename_i es' hM' _
          (apply so_call; (exact Ev.func); (focus ((apply EvL.cons; (exact ev_)); exact EvL.nil)); (focus (repeat (first | exact App.nil | apply App.cons))); assumption; (exact numbers_tri _ _ _); (exact sel_); exact rfl)
          rintro v L ⟨bx2, rfl, rfl⟩
          simp only [List.append_assoc, List.cons_append, List.nil_append]
          skip
          (apply so_call; (exact Ev.func); (focus ((apply EvL.cons; (exact ev_)); exact EvL.nil)); (focus (repeat (first | exact App.nil | apply App.cons))); assumption; (exact hx9 bx2); (exact sel_); exact rfl)
          rintro v L ⟨B, ⟨⟨p', cap', rfl, hrow⟩, _⟩, rfl⟩
          simp only [List.append_assoc, List.cons_append, List.nil_append]
          ((refine asg_ ?_); (refine ac_ ?_); refine sn_ ?_; (apply sm_ret); (apply retM_mark; (exact pick_); apply ret_ok; (focus ((apply Res.tmp; (exact ev_)); (apply Res.tmp; (exact ev_)); exact Res.nil)); (exact ⟨_, (List.Perm.of_eq (hB' es' _).symm).append_left B, _, _, _, _, B, _, rfl, .ok hf ⟨_, _, rfl, hrow⟩, ⟨cb, mm, es', cl, ρ, rfl, hI.del hM' hck⟩, rfl⟩); (exact sel_); (exact appb_)))
        · intro _ _ h; cases h.1
        · rintro k eid Ld ⟨h0, G, hp⟩
          injection h0 with h0
          subst h0
          have hck : ClkOk (T.c.endHd (xidsOf t.lvs) 3) := (endHd_ck hI.ck _ _)
          apply et_hit
          apply nm_then
          refine sm_perm (hp.cons _) ?_
          ((apply sm_seq); (apply sm_region; exact rfl; (repeat (first | exact noOut_ret | exact noOut_retM | exact noOut_rnd | apply noOut_then | apply noOut_block))); (refine se_ (ex_load1 ev_ asm_ mem_ nth_) ?_); (refine se_ (ex_nilCheck ev_) ?_); (refine se_ (ex_fieldAddr ev_ asm_) ?_); (refine se_ (ex_load1 ev_ asm_ mem_ nth_) ?_); (refine mv_ ?_); (apply so_del; (exact ev_); (intro _ _; (focus (repeat (first | exact Turn.here | apply Turn.there | apply Turn.pre)))); assumption; (exact ev_); (first | exact keyEq .. | exact rfl); assumption; assumption; intro _ _ _); refine sn_ ?_; (apply sm_seq); (apply sm_region; exact rfl; (repeat (first | exact noOut_ret | exact noOut_retM | exact noOut_rnd | apply noOut_then | apply noOut_block))); (refine mv_ ?_); (refine se_ (ex_nilCheck ev_) ?_); (refine se_ (ex_fieldAddr ev_ asm_) ?_); (refine se_ (ex_load1 ev_ asm_ mem_ nth_) ?_))
          rename_i es' hM' _
          (apply so_call; (exact Ev.func); (focus ((apply EvL.cons; (exact ev_)); exact EvL.nil)); (focus (repeat (first | exact App.nil | apply App.cons))); assumption; (exact numbers_tri _ _ _); (exact sel_); exact rfl)
          rintro v L ⟨bx2, rfl, rfl⟩
          simp only [List.append_assoc, List.cons_append, List.nil_append]
          skip
          (apply so_call; (exact Ev.func); (focus ((apply EvL.cons; (exact ev_)); exact EvL.nil)); (focus (repeat (first | exact App.nil | apply App.cons))); assumption; (exact hx9 bx2); (exact sel_); exact rfl)
          rintro v L ⟨B, ⟨⟨p', cap', rfl, hrow⟩, _⟩, rfl⟩
          simp only [List.append_assoc, List.cons_append, List.nil_append]
          ((refine asg_ ?_); (refine ac_ ?_); refine sn_ ?_; (apply sm_ret); (apply retM_mark; (exact pick_); apply ret_ok; (focus ((apply Res.tmp; (exact ev_)); (apply Res.tmp; (exact ev_)); exact Res.nil)); (exact ⟨_, (List.Perm.of_eq (hB' es' _).symm).append_left B, _, _, _, _, B, _, rfl, .ok hf ⟨_, _, rfl, hrow⟩, ⟨cb, mm, es', cl, ρ, rfl, hI.del hM' hck⟩, rfl⟩); (exact sel_); (exact appb_)))
end Go.Proofs.Ytfkpjnomfmjplaa
