/- Conflict: forget. -/
import Derived.Test.YtomgkmoecbnddaaR2
set_option linter.unusedVariables false
set_option linter.unusedSimpArgs false
set_option linter.unnecessarySimpa false
namespace Go.Sym
open Go
theorem tri_drop {P : Program} {f : FuncId} {args : Array Value} {pre : List Blk} {post : Value → List Blk → Prop} (h : Tri P f args pre fun v L => ∃ L' A, L.Perm (L' ++ A) ∧ post v L') : Tri P f args pre post := .mk fun E R w H =>
  (h.out E R w H).mono fun _ _ ⟨v, _, he, ⟨L', A, hp, hq⟩, H'⟩ => ⟨v, L', he, hq, by
    have h1 := H'.perm (hp.append_right R)
    rw [List.append_assoc] at h1
    refine h1.sub (List.Sublist.append_left (List.sublist_append_right A R) L')⟩
end Go.Sym
namespace Go.Proofs.Ytomgkmoecbnddaa
open Go.Sym

/-- a node's block: what 'forget' looks at -/
def NodeAt (NB : List Blk) (v : Value) (bg sq : Int) : Prop := ∃ nb T a0 a2 a4 a5 a6 a7 a8 a9 a10, v = .pointer (some ⟨nb, 0, none⟩) ∧ (nb, .cells [a0, .int .i64 bg, a2, .int .i64 sq, a4, a5, a6, a7, a8, a9, a10].toArray T) ∈ NB
/-- the least of the numbers, or none -/
def LeastOf (bg : Int → Int) (vis : List Int) (o : Int) : Prop := o ≤ 4611686018427387903 ∧ (∀ k ∈ vis, o ≤ bg k) ∧ (o = 4611686018427387903 ∨ ∃ k ∈ vis, o = bg k)
theorem perm_fin (a b c d : Blk) (G N R : List Blk) : (a :: b :: c :: d :: (G ++ (N ++ R))).Perm ((b :: c :: d :: N) ++ R ++ (a :: G)) := by
  have h1 : (a :: (G ++ (N ++ R))).Perm ((N ++ R) ++ a :: G) := ((List.perm_append_comm (l₁ := G) (l₂ := N ++ R)).cons a).trans List.perm_middle.symm
  have h2 : (a :: ([b, c, d] ++ (G ++ (N ++ R)))).Perm ([b, c, d] ++ a :: (G ++ (N ++ R))) := List.perm_middle.symm
  have h3 := h2.trans (h1.append_left [b, c, d])
  simpa using h3
theorem forget_tri {p ml me : Nat} {T : TypeId} {c0 c1 : Value} {esl ese : Array MapEntry} {cl ce : Nat} {live ended : List (Int × Value)} {NB : List Blk} {bg sq bg' sq' : Int → Int} (hL : MapOf (Value.int .i64) live esl cl) (hE : MapOf (Value.int .i64) ended ese ce)
    (hl : ∀ q ∈ live, NodeAt NB q.2 (bg q.1) (sq' q.1)) (he : ∀ q ∈ ended, NodeAt NB q.2 (bg' q.1) (sq q.1)) :
    Tri Try.prog 36 #[.pointer (some ⟨p, 0, none⟩)] ((p, .cells [c0, c1, .map (some ml), .map (some me)].toArray T) :: (ml, .map esl cl) :: (me, .map ese ce) :: NB) fun v L => v = .tuple #[] ∧ ∃ o es' , LeastOf bg (live.map (·.1)) o ∧ L = (p, .cells [c0, c1, .map (some ml), .map (some me)].toArray T) :: (ml, .map esl cl) :: (me, .map es' ce) :: NB ∧
      MapOf (Value.int .i64) (ended.filter fun q => !decide (sq q.1 ≤ o)) es' ce := by
  have f_mixed := mixed; have f_fo66_2 := fo66_2; have f_fo66_3 := fo66_3; have f_fo72_1 := fo72_1; have f_fo72_3 := fo72_3; have f_ty3 := ty3; have f_ty64 := ty64; have f_ty69 := ty69; have f_un_64 : Und Try.prog 64 _ := ⟨Try.underlying64⟩; have f_zero69 := zero69; have f_zv69 := zv69
  have f_kl := KL3
  refine tri_intro (args := [_]) Try.func36 rfl Try.ntmps36 rfl (rs := _) rfl rfl fun E R => ?_
  simp only [fr, List.cons_append, List.nil_append]
  (refine sr_ ?_; (refine ac_ ?_); refine sn_ ?_; (apply sc_seq); refine sr_ ?_; (refine mv_ ?_); (refine se_ (ex_nilCheck ev_) ?_); (refine se_ (ex_fieldAddr ev_ asm_) ?_); (refine se_ (ex_load1 ev_ asm_ mem_ nth_) ?_); (apply so_range; (exact ev_); (exact mem_); assumption; exact rfl; intro _); refine sn_ ?_; (apply sc_block))
  rename_i r
  refine sc_loop (fun k f L => ∃ seen vis o, At f 0 (.pointer (some ⟨p, 0, none⟩)) ∧ At f 2 (.int .i64 o) ∧ At f 11 (.pointer (some ⟨r, 0, none⟩)) ∧ Iter (Value.int .i64) esl cl seen vis ∧ LeastOf bg vis o ∧ (∀ x ∈ vis, x ∈ live.map (·.1)) ∧ k = ((live.map (·.1)).filter fun x => decide (x ∉ vis)).length ∧
    Held L [(r, .mapIter (some ml) cl seen cl), (p, .cells [c0, c1, .map (some ml), .map (some me)].toArray T), (ml, .map esl cl), (me, .map ese ce)] (NB ++ R))
    _ ⟨#[], [], 4611686018427387903, at_, at_, at_, Iter.start hL, ⟨by omega, by simp, .inl rfl⟩, by simp, rfl, held_⟩ ?_
  rintro k f L ⟨seen, vis, o, a0, a2, a11, hI, hO, hsub, hk, ⟨G, hG⟩⟩
  refine sc_perm hG ?_
  simp only [List.cons_append, List.nil_append]
  ((apply sc_seq); (apply sc_region))
  apply so_nxt; (exact ev_); (intro _; (focus (repeat (first | exact Turn.here | apply Turn.there | apply Turn.pre)))); (exact mem_); assumption; assumption; (exact Nat.le_refl _); (exact ci_inj); exact rfl
  · intro hall
    have hleast : LeastOf bg (live.map (·.1)) o := by
      refine ⟨hO.1, fun x hx => ?_, hO.2.2.imp id fun ⟨x, hx, he⟩ => ⟨x, hsub x hx, he⟩⟩
      obtain ⟨q, hq, rfl⟩ := List.mem_map.1 hx
      exact hO.2.1 _ (hall q hq)
    clear hO hsub hk hI
    ((refine se_ (ex_extract ev_ nth_) ?_); refine sn_ ?_; (apply sc_seq); (refine cf_ ?_); (apply sc_exit); (apply et_then); (apply et_then); (apply et_hit); (apply nm_then); refine sr_ ?_; (refine mv_ ?_); (refine se_ (ex_nilCheck ev_) ?_); (refine se_ (ex_fieldAddr ev_ asm_) ?_); (refine se_ (ex_load1 ev_ asm_ mem_ nth_) ?_); (apply so_range; (exact ev_); (exact mem_); assumption; exact rfl; intro _); refine sn_ ?_; (apply sc_block))
    rename_i r2
    refine sc_loop (fun k f L => ∃ seen2 vis es2, At f 0 (.pointer (some ⟨p, 0, none⟩)) ∧ At f 2 (.int .i64 o) ∧ At f 26 (.pointer (some ⟨r2, 0, none⟩)) ∧ Iter (Value.int .i64) es2 ce seen2 vis ∧ MapOf (Value.int .i64) (ended.filter fun q => !(decide (q.1 ∈ vis) && decide (sq q.1 ≤ o))) es2 ce ∧ k = ((ended.map (·.1)).filter fun x => decide (x ∉ vis)).length ∧
      Held L [(r2, .mapIter (some me) ce seen2 ce), (p, .cells [c0, c1, .map (some ml), .map (some me)].toArray T), (ml, .map esl cl), (me, .map es2 ce)] (NB ++ R))
      _ ⟨#[], [], ese, at_, at_, at_, Iter.start hE, by rw [List.filter_eq_self.2 (fun _ _ => by simp)]; exact hE, rfl, held_⟩ ?_
    rintro k2 f2 L2 ⟨seen2, vis2, es2, b0, b2, b26, hI2, hE2, hk2, ⟨G2, hG2⟩⟩
    refine sc_perm hG2 ?_
    simp only [List.cons_append, List.nil_append]
    ((apply sc_seq); (apply sc_region))
    apply so_nxt; (exact ev_); (intro _; (focus (repeat (first | exact Turn.here | apply Turn.there | apply Turn.pre)))); (exact mem_); assumption; assumption; (exact Nat.le_refl _); (exact ci_inj); exact rfl
    · intro hall2
      ((refine se_ (ex_extract ev_ nth_) ?_); refine sn_ ?_; (apply sc_seq); (refine cf_ ?_); (apply sc_exit); (apply et_then); (apply et_then); (apply et_hit))
      refine ⟨.inl rfl, [], _, (r2, _) :: G2, .nil, ⟨rfl, o, es2, hleast, rfl, ?_⟩, perm_fin _ _ _ _ _ _ _⟩
      have : (ended.filter fun q => !decide (sq q.1 ≤ o)) = ended.filter fun q => !(decide (q.1 ∈ vis2) && decide (sq q.1 ≤ o)) := by
        apply List.filter_congr
        intro q hq
        by_cases h1 : sq q.1 ≤ o
        · by_cases h2 : q.1 ∈ vis2
          · simp [h1, h2]
          · exact absurd (hall2 q (List.mem_filter.2 ⟨hq, by simp [h2]⟩)) h2
        · simp [h1]
      rw [this]
      exact hE2
    · rintro ⟨k1, v1⟩ seen' hp hnv hI' hcur
      have hpe : (k1, v1) ∈ ended := (List.mem_filter.1 hp).1
      simp only at hnv hI' hcur
      obtain ⟨nb, T1, n0, n2, n4, n5, n6, n7, n8, n9, n10, rfl, hmem⟩ := he _ hpe
      simp only at hmem
      ((refine se_ (ex_extract ev_ nth_) ?_); refine sn_ ?_; (apply sc_seq); (refine ct_ ?_); (apply sc_skip); (apply nm_then); (apply sc_block); refine sr_ ?_; (refine se_ (ex_ent ev_ mem_ mem_ asm_ asm_) ?_); (refine se_ (ex_extract ev_ nth_) ?_); (refine se_ (ex_extract ev_ nth_) ?_); (refine asg_ ?_); (refine asg_ ?_); refine sn_ ?_; refine sr_ ?_; (refine mv_ ?_); (refine se_ (ex_nilCheck ev_) ?_); (refine se_ (ex_fieldAddr ev_ asm_) ?_); (apply so_ex; (apply ex_load1; (exact ev_); assumption; (repeat (apply List.Mem.tail)); exact List.mem_append_right _ (List.mem_append_left _ hmem); (exact nth_)); exact rfl); (refine mv_ ?_); (apply so_split; (apply ex_leq; (exact ev_); (exact ev_)); exact rfl; refine ⟨fun _ => ?_, fun _ => ?_⟩); refine sn_ ?_; (refine ct_ ?_); (apply sc_region); (refine mv_ ?_); (refine se_ (ex_nilCheck ev_) ?_); (refine se_ (ex_fieldAddr ev_ asm_) ?_); (refine se_ (ex_load1 ev_ asm_ mem_ nth_) ?_); (refine mv_ ?_); (apply so_del; (exact ev_); (intro _ _; (focus (repeat (first | exact Turn.here | apply Turn.there | apply Turn.pre)))); assumption; (exact ev_); (first | exact keyEq .. | exact rfl); assumption; assumption; intro _ _ _); (apply so_nil); (apply nm_block); (apply nm_then))
      · rename_i hle es3 hM3 hsub3
        have hkm : k1 ∈ ended.map (·.1) := List.mem_map.2 ⟨_, hpe, rfl⟩
        refine ⟨_, by rw [hk2]; exact unseen_lt hkm hnv, seen', k1 :: vis2, es3, at_, at_, at_, hI'.sub hsub3, ?_, rfl, held_⟩
        have : (ended.filter fun q => !(decide (q.1 ∈ k1 :: vis2) && decide (sq q.1 ≤ o))) = delV (ended.filter fun q => !(decide (q.1 ∈ vis2) && decide (sq q.1 ≤ o))) k1 := by
          unfold delV
          rw [List.filter_filter]
          apply List.filter_congr
          intro q _
          by_cases h1 : q.1 = k1
          · simp [h1, hle]
          · simp [h1]
        rw [this]
        exact hM3
      · rename_i hgt
        (refine sn_ ?_; (refine cf_ ?_); (apply sc_skip); (apply nm_block); (apply nm_then))
        have hkm : k1 ∈ ended.map (·.1) := List.mem_map.2 ⟨_, hpe, rfl⟩
        refine ⟨_, by rw [hk2]; exact unseen_lt hkm hnv, seen', k1 :: vis2, es2, at_, at_, at_, hI', ?_, rfl, held_⟩
        have : (ended.filter fun q => !(decide (q.1 ∈ k1 :: vis2) && decide (sq q.1 ≤ o))) = ended.filter fun q => !(decide (q.1 ∈ vis2) && decide (sq q.1 ≤ o)) := by
          apply List.filter_congr
          intro q _
          by_cases h1 : q.1 = k1
          · simp [h1, hgt]
          · simp [h1]
        rw [this]
        exact hE2
  · rintro ⟨k1, v1⟩ seen' hp hnv hI' hcur
    simp only at hnv hI' hcur
    obtain ⟨nb, T1, n0, n2, n4, n5, n6, n7, n8, n9, n10, rfl, hmem⟩ := hl _ hp
    simp only at hmem
    generalize hmin : (if bg k1 < o then bg k1 else o) = o2
    ((refine se_ (ex_extract ev_ nth_) ?_); refine sn_ ?_; (apply sc_seq); (refine ct_ ?_); (apply sc_skip); (apply nm_then); (apply sc_block); refine sr_ ?_; (refine se_ (ex_ent ev_ mem_ mem_ asm_ asm_) ?_); (refine se_ (ex_extract ev_ nth_) ?_); (refine asg_ ?_); refine sn_ ?_; (apply sc_region); (refine mv_ ?_); (refine mv_ ?_); (refine se_ (ex_nilCheck ev_) ?_); (refine se_ (ex_fieldAddr ev_ asm_) ?_); (apply so_ex; (apply ex_load1; (exact ev_); assumption; (repeat (apply List.Mem.tail)); exact List.mem_append_right _ (List.mem_append_left _ hmem); (exact nth_)); exact rfl); (apply so_ex; (apply ex_min; (exact ev_); (exact ev_); (first | assumption | exact rfl)); exact rfl); (refine asg_ ?_); (apply so_nil); (apply nm_block); (apply nm_then))
    have hkm : k1 ∈ live.map (·.1) := List.mem_map.2 ⟨_, hp, rfl⟩
    refine ⟨_, by rw [hk]; exact unseen_lt hkm hnv, seen', k1 :: vis, o2, at_, at_, at_, hI', ?_, List.forall_mem_cons.2 ⟨hkm, hsub⟩, rfl, held_⟩
    obtain ⟨h1, h2, h3⟩ := hO
    by_cases hb : bg k1 < o
    · rw [if_pos hb] at hmin
      subst hmin
      exact ⟨by omega, List.forall_mem_cons.2 ⟨Int.le_refl _, fun x hx => by have := h2 x hx; omega⟩, .inr ⟨k1, List.mem_cons_self .., rfl⟩⟩
    · rw [if_neg hb] at hmin
      subst hmin
      exact ⟨h1, List.forall_mem_cons.2 ⟨by omega, h2⟩, h3.imp id fun ⟨x, hx, e⟩ => ⟨x, List.mem_cons_of_mem _ hx, e⟩⟩

theorem part_perm2 {α : Type} (p : α → Bool) : ∀ l : List α, l.Perm (l.filter p ++ l.filter fun x => !p x)
  | [] => .refl _
  | a :: l => by
    rw [List.filter_cons, List.filter_cons]
    cases p a
    · simp only [Bool.false_eq_true, if_false, Bool.not_false, if_true]
      exact ((part_perm2 p l).cons a).trans List.perm_middle.symm
    · simp only [if_true, Bool.not_true, Bool.false_eq_true, if_false, List.cons_append]
      exact (part_perm2 p l).cons a
/-- of a node's begin, of a node's commit number -/
def bgOf (l : List Nd) (k : Int) : Int := match findL l k with | some n => n.begin_ | none => 0
def sqOf (l : List Nd) (k : Int) : Int := match findL l k with | some n => n.seq | none => 0
theorem leastB_of (l : List Nd) (hk : ∀ n ∈ l, n.begin_ ≤ none_) : ∀ o, o ≤ none_ → (l.foldl (fun o n => if n.begin_ < o then n.begin_ else o) o ≤ o) ∧ (∀ n ∈ l, l.foldl (fun o n => if n.begin_ < o then n.begin_ else o) o ≤ n.begin_) ∧ (l.foldl (fun o n => if n.begin_ < o then n.begin_ else o) o = o ∨ ∃ n ∈ l, l.foldl (fun o n => if n.begin_ < o then n.begin_ else o) o = n.begin_) := by
  induction l with
  | nil => intro o _; exact ⟨Int.le_refl _, fun n hn => (by cases hn), .inl rfl⟩
  | cons a l ih =>
    intro o ho
    have ha := hk a (List.mem_cons_self ..)
    rw [List.foldl_cons]
    by_cases hlt : a.begin_ < o
    · rw [if_pos hlt]
      obtain ⟨h1, h2, h3⟩ := ih (fun n hn => hk n (List.mem_cons_of_mem _ hn)) a.begin_ (by omega)
      refine ⟨by omega, fun n hn => ?_, ?_⟩
      · rcases List.mem_cons.1 hn with rfl | hn
        · exact h1
        · exact h2 n hn
      · rcases h3 with h3 | ⟨n, hn, h3⟩
        · exact .inr ⟨a, List.mem_cons_self .., h3⟩
        · exact .inr ⟨n, List.mem_cons_of_mem _ hn, h3⟩
    · rw [if_neg hlt]
      obtain ⟨h1, h2, h3⟩ := ih (fun n hn => hk n (List.mem_cons_of_mem _ hn)) o ho
      refine ⟨h1, fun n hn => ?_, ?_⟩
      · rcases List.mem_cons.1 hn with rfl | hn
        · omega
        · exact h2 n hn
      · rcases h3 with h3 | ⟨n, hn, h3⟩
        · exact .inl h3
        · exact .inr ⟨n, List.mem_cons_of_mem _ hn, h3⟩
theorem least_eq {g : Gr} {K : Nat} {ρ : Int → Raw} (hI : InvN K g ρ) {o : Int} (h : LeastOf (bgOf g.live) ((mlist ρ g.live).map (·.1)) o) : o = leastB g := by
  rw [mlist_keys] at h
  have hnd : (g.live.map (·.id)).Nodup := by have := hI.nd; unfold Gr.nodes at this; rw [List.map_append, List.nodup_append] at this; exact this.1
  have hbg : ∀ n ∈ g.live, bgOf g.live n.id = n.begin_ := fun n hn => by unfold bgOf; rw [findL_mem hnd hn]
  have hle : ∀ n ∈ g.live, n.begin_ ≤ none_ := fun n hn => by
    have h1 := (hI.rg n (List.mem_append_left _ hn)).2.1; have h2 := hI.sz.2.2.2
    unfold none_; omega
  obtain ⟨h1, h2, h3⟩ := leastB_of g.live hle none_ (Int.le_refl _)
  obtain ⟨k1, k2, k3⟩ := h
  unfold leastB
  generalize g.live.foldl (fun o n => if n.begin_ < o then n.begin_ else o) none_ = q at *
  have k2' : ∀ n ∈ g.live, o ≤ n.begin_ := fun n hn => by have := k2 n.id (List.mem_map.2 ⟨n, hn, rfl⟩); rwa [hbg n hn] at this
  unfold none_ at h1 h3
  have e1 : o ≤ q := by
    rcases h3 with h3 | ⟨n, hn, h3⟩
    · omega
    · rw [h3]; exact k2' n hn
  have e2 : q ≤ o := by
    rcases k3 with k3 | ⟨k, hk, k3⟩
    · omega
    · obtain ⟨n, hn, rfl⟩ := List.mem_map.1 hk
      rw [hbg n hn] at k3; rw [k3]; exact h2 n hn
  omega
theorem forgetG_inv {K : Nat} {g : Gr} {ρ : Int → Raw} (hI : InvN K g ρ) : InvN K g.forgetG ρ := by
  have hs : g.forgetG.ended.Sublist g.ended := List.filter_sublist
  have hl : g.forgetG.live = g.live := rfl
  have hn : g.forgetG.nodes.Sublist g.nodes := List.Sublist.append_left hs _
  refine ⟨hI.nd.sublist (hn.map _), hI.lv, fun n h => hI.en n (hs.subset h), hI.mi, hI.mo, hI.ci, hI.co, fun n h => hI.em n (hs.subset h), fun n h => hI.bs n (hn.subset h), fun n h => hI.rg n (hn.subset h), hI.sz⟩
theorem forgetG_tri {K : Nat} {g : Gr} {M : Mem} (hI : Inv K g M) :
    Tri Try.prog 36 #[.pointer (some ⟨M.p, 0, none⟩)] (blks g M) fun v L => v = .tuple #[] ∧ ∃ M', L = blks g.forgetG M' ∧ Inv K g.forgetG M' ∧ M'.p = M.p ∧ M'.ρ = M.ρ := by
  have hndl : (g.live.map (·.id)).Nodup := by have := hI.n.nd; unfold Gr.nodes at this; rw [List.map_append, List.nodup_append] at this; exact this.1
  have hnde : (g.ended.map (·.id)).Nodup := by have := hI.n.nd; unfold Gr.nodes at this; rw [List.map_append, List.nodup_append] at this; exact this.2.1
  have hl : ∀ q ∈ mlist M.ρ g.live, NodeAt (NC M.ρ g.nodes ++ NM M.ρ g.nodes) q.2 (bgOf g.live q.1) (sqOf g.live q.1) := fun q hq => by
    obtain ⟨n, hn, rfl⟩ := List.mem_map.1 hq
    have hc := nb_cell (ρ := M.ρ) (l := g.nodes) (List.mem_append_left _ hn)
    simp only [ncell, Nd.cells] at hc
    show NodeAt _ (ptrB (M.ρ n.id).b) (bgOf g.live n.id) (sqOf g.live n.id)
    rw [show bgOf g.live n.id = n.begin_ from by unfold bgOf; rw [findL_mem hndl hn], show sqOf g.live n.id = n.seq from by unfold sqOf; rw [findL_mem hndl hn]]
    exact ⟨_, _, _, _, _, _, _, _, _, _, _, rfl, List.mem_append_left _ hc⟩
  have he : ∀ q ∈ mlist M.ρ g.ended, NodeAt (NC M.ρ g.nodes ++ NM M.ρ g.nodes) q.2 (bgOf g.ended q.1) (sqOf g.ended q.1) := fun q hq => by
    obtain ⟨n, hn, rfl⟩ := List.mem_map.1 hq
    have hc := nb_cell (ρ := M.ρ) (l := g.nodes) (List.mem_append_right _ hn)
    simp only [ncell, Nd.cells] at hc
    show NodeAt _ (ptrB (M.ρ n.id).b) (bgOf g.ended n.id) (sqOf g.ended n.id)
    rw [show bgOf g.ended n.id = n.begin_ from by unfold bgOf; rw [findL_mem hnde hn], show sqOf g.ended n.id = n.seq from by unfold sqOf; rw [findL_mem hnde hn]]
    exact ⟨_, _, _, _, _, _, _, _, _, _, _, rfl, List.mem_append_left _ hc⟩
  have h := forget_tri (p := M.p) (ml := M.lm) (me := M.em) (T := 66) (c0 := .int .i64 g.most) (c1 := .int .i64 g.commits) hI.ml hI.me hl he
  refine tri_drop (h.mono fun v L ⟨hv, o, es', hO, hL, hM⟩ => ?_)
  have ho := least_eq hI.n hO
  subst ho
  subst hL
  have hf : (mlist M.ρ g.ended).filter (fun q => !decide (sqOf g.ended q.1 ≤ leastB g)) = mlist M.ρ g.forgetG.ended := by
    unfold mlist Gr.forgetG
    rw [List.filter_map]
    congr 1
    apply List.filter_congr
    intro n hn
    simp only [Function.comp]
    rw [show sqOf g.ended n.id = n.seq from by unfold sqOf; rw [findL_mem hnde hn]]
  rw [hf] at hM
  refine ⟨blks g.forgetG { M with ese := es' }, NC M.ρ (g.ended.filter fun n => !!decide (n.seq ≤ leastB g)) ++ NM M.ρ (g.ended.filter fun n => !!decide (n.seq ≤ leastB g)), ?_, hv, { M with ese := es' }, rfl, ⟨forgetG_inv hI.n, hI.ml, hM⟩, rfl, rfl⟩
  have hp : g.ended.Perm (g.forgetG.ended ++ g.ended.filter fun n => !!decide (n.seq ≤ leastB g)) := part_perm2 (fun n : Nd => !decide (n.seq ≤ leastB g)) g.ended
  have hpn : g.nodes.Perm (g.forgetG.nodes ++ g.ended.filter fun n => !!decide (n.seq ≤ leastB g)) := by
    have := hp.append_left g.live
    rwa [← List.append_assoc] at this
  have h1 := NC_perm (ρ := M.ρ) hpn
  have h2 := NM_perm (ρ := M.ρ) hpn
  rw [NC_app] at h1
  rw [NM_app] at h2
  have h3 := h1.append h2
  have h4 : ∀ (a b c d : List Blk), (a ++ b ++ (c ++ d)).Perm ((a ++ c) ++ (b ++ d)) := fun a b c d => by
    rw [List.append_assoc, List.append_assoc]
    refine List.Perm.append_left a ?_
    rw [← List.append_assoc, ← List.append_assoc]
    exact List.Perm.append_right d List.perm_append_comm
  have h5 := (h3.trans (h4 _ _ _ _)).append_left (hblk g.forgetG { M with ese := es' })
  rw [← List.append_assoc] at h5
  exact h5
end Go.Proofs.Ytomgkmoecbnddaa
