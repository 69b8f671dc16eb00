/- Conflict: keys: the keys of a map, in order. -/
import Derived.Test.YtomgkmoecbnddaaFacts
import Derived.Test.YtomgkmoecbnddaaAbb
import Derived.Test.YtomgkmoecbnddaaShelf
set_option linter.unusedVariables false
set_option linter.unusedSimpArgs false
set_option linter.unnecessarySimpa false
namespace Go.Proofs.Ytomgkmoecbnddaa
open Go.Sym

theorem KL3 : KeyLaw (K := Int) Try.prog 3 (.int .i64) := KeyLaw.of_int Try.underlying3 fun b k w => by kernel_rfl
theorem ci_inj : ∀ a b : Int, Value.int .i64 a = .int .i64 b → a = b := fun a b h => by injection h
theorem sortNone_tri : Tri Try.prog 50 #[.slice none 0 0] [] fun v L => v = .tuple #[] ∧ L = [] := .mk fun E R w hh => (Try.slices_Sort_int_none none 0 w).mono fun e w' ⟨he, hw⟩ => ⟨_, _, he, ⟨rfl, rfl⟩, by rw [hw]; exact hh⟩
theorem unseen_lt {S vis : List Int} {k : Int} (hk : k ∈ S) (hv : k ∉ vis) : (S.filter fun x => decide (x ∉ k :: vis)).length < (S.filter fun x => decide (x ∉ vis)).length := by
  have h1 : (S.filter fun x => decide (x ∉ k :: vis)) = (S.filter fun x => decide (x ∉ vis)).filter fun x => decide (x ≠ k) := by
    rw [List.filter_filter]
    apply List.filter_congr
    intro x _
    simp only [List.mem_cons, not_or, Bool.decide_and]
  rw [h1]
  have hm : k ∈ S.filter fun x => decide (x ∉ vis) := List.mem_filter.2 ⟨hk, by simpa using hv⟩
  generalize (S.filter fun x => decide (x ∉ vis)) = T at hm
  clear h1 hk hv
  induction T with
  | nil => simp at hm
  | cons a T ih =>
    rw [List.filter_cons]
    by_cases ha : a = k
    · subst ha
      simp only [ne_eq, not_true, decide_false, Bool.false_eq_true, if_false, List.length_cons]
      exact Nat.lt_succ_of_le (List.length_filter_le _ _)
    · have : k ∈ T := by
        rcases List.mem_cons.1 hm with h | h
        · exact absurd h.symm ha
        · exact h
      simp only [ne_eq, ha, not_false_iff, decide_true, if_true, List.length_cons]
      exact Nat.succ_lt_succ (ih this)
theorem nodup_len : ∀ (vis S : List Int), vis.Nodup → (∀ x ∈ vis, x ∈ S) → vis.length ≤ S.length
  | [], _, _, _ => Nat.zero_le _
  | a :: vis, S, hn, hs => by
    rw [List.nodup_cons] at hn
    have ha := hs a (List.mem_cons_self ..)
    obtain ⟨s, t, rfl⟩ := List.append_of_mem ha
    have := nodup_len vis (s ++ t) hn.2 fun x hx => by
      have h1 := hs x (List.mem_cons_of_mem _ hx)
      have hne : x ≠ a := fun e => hn.1 (e ▸ hx)
      simp only [List.mem_append, List.mem_cons] at h1 ⊢
      rcases h1 with h1 | h1 | h1
      · exact .inl h1
      · exact absurd h1 hne
      · exact .inr h1
    simp only [List.length_append, List.length_cons] at this ⊢
    omega
/-- what 'sorted' hands back -/
def SortedPost (ml : List (Int × Value)) (pre : List Blk) (v : Value) (L : List Blk) : Prop :=
  (ml = [] ∧ v = .slice none 0 0 ∧ L = pre) ∨ ∃ (nb cap : Nat) (zs : List Int) (junk : List Value), ml ≠ [] ∧ v = .slice (some ⟨nb, 0, none⟩) zs.length cap ∧ L = (nb, .cells (zs.map (Value.int .i64) ++ junk).toArray 3) :: pre ∧ (zs.map (Value.int .i64) ++ junk).length = cap ∧ zs.Perm (ml.map (·.1)) ∧ zs.Pairwise (· ≤ ·)
theorem keys_tri {m : Nat} {es : Array MapEntry} {c : Nat} {ml : List (Int × Value)} (hM : MapOf (Value.int .i64) ml es c) (hS : ml.length ≤ 4096) :
    Tri Try.prog 31 #[.map (some m)] [(m, .map es c)] (SortedPost ml [(m, .map es c)]) := by
  have f_mixed := mixed; have f_by3 := by3; have f_en50 := en50; have f_ty25 := ty25; have f_ty3 := ty3; have f_ty69 := ty69; have f_un_25 : Und Try.prog 25 _ := ⟨Try.underlying25⟩; have f_un_64 : Und Try.prog 64 _ := ⟨Try.underlying64⟩; have f_zero3 := zero3; have f_zero69 := zero69; have f_zv3 := zv3; have f_zv69 := zv69
  have f_kl := KL3
  refine tri_intro (args := [_]) Try.func31 rfl Try.ntmps31 rfl (rs := _) rfl rfl fun E R => ?_
  simp only [fr, List.cons_append, List.nil_append]
  (refine sr_ ?_; (refine ac_ ?_); refine sn_ ?_; refine sr_ ?_; (refine ac_ ?_); refine sn_ ?_; (apply sc_seq); refine sr_ ?_; (refine mv_ ?_); (apply so_range; (exact ev_); (exact mem_); assumption; exact rfl; intro _); refine sn_ ?_; (apply sc_block))
  rename_i r
  refine sc_loop (fun k f L => ∃ seen vis zs, At f 6 (.pointer (some ⟨r, 0, none⟩)) ∧ zs = vis.reverse ∧ Iter (Value.int .i64) es c seen vis ∧ vis.Nodup ∧ (∀ x ∈ vis, x ∈ ml.map (·.1)) ∧ k = ((ml.map (·.1)).filter fun x => decide (x ∉ vis)).length ∧
    ((zs = [] ∧ At f 3 (.slice none 0 0) ∧ Held L [(r, .mapIter (some m) c seen c), (m, .map es c)] R) ∨
     ∃ b cap junk, zs ≠ [] ∧ At f 3 (.slice (some ⟨b, 0, none⟩) zs.length cap) ∧ (zs.map (Value.int .i64) ++ junk).length = cap * 1 ∧ Held L [(r, .mapIter (some m) c seen c), (b, .cells (zs.map (Value.int .i64) ++ junk).toArray 3), (m, .map es c)] R))
    _ ⟨#[], [], [], at_, rfl, Iter.start hM, by simp, by simp, rfl, .inl ⟨rfl, at_, held_⟩⟩ ?_
  rintro k f L ⟨seen, vis, zs, a6, hzs, hI, hnd, hsub, hk, ⟨hz0, a3, ⟨G, hG⟩⟩ | ⟨b, cap, junk, hz0, a3, hjl, ⟨G, hG⟩⟩⟩
  · refine sc_perm hG ?_
    simp only [List.cons_append, List.nil_append]
    ((apply sc_seq); (apply sc_region))
    apply so_nxt; (exact ev_); (intro _; (focus (repeat (first | exact Turn.here | apply Turn.there | apply Turn.pre)))); (exact mem_); assumption; assumption; (exact Nat.le_refl _); (exact ci_inj); exact rfl
    · intro hall
      have hml : ml = [] := by
        cases ml with
        | nil => rfl
        | cons q ml =>
          have := hall q (List.mem_cons_self ..)
          have hv : vis = [] := by rw [hz0] at hzs; exact List.reverse_eq_nil_iff.1 hzs.symm
          rw [hv] at this
          cases this
      ((refine se_ (ex_extract ev_ nth_) ?_); refine sn_ ?_; (apply sc_seq); (refine cf_ ?_); (apply sc_exit); (apply et_then); (apply et_then); (apply et_hit); (apply nm_then); refine sr_ ?_; (refine mv_ ?_); (apply so_callq; (exact Ev.func); (focus ((apply EvL.cons; (exact ev_)); exact EvL.nil)); (focus (repeat (first | exact App.nil | apply App.cons))); assumption; exact sortNone_tri; (exact sel_); exact rfl); refine sn_ ?_; refine sr_ ?_; (refine mv_ ?_); (refine asg_ ?_); refine sn_ ?_; (apply sc_ret))
      (apply ret_ok; (focus ((apply Res.tmp; (exact ev_)); exact Res.nil)); (exact .inl ⟨hml, rfl, rfl⟩); (exact sel_); (exact appb_))
    · rintro ⟨k1, v1⟩ seen' hp hnv hI' hcur
      simp only at hnv hI' hcur
      ((refine se_ (ex_extract ev_ nth_) ?_); refine sn_ ?_; (apply sc_seq); (refine ct_ ?_); (apply sc_skip); (apply nm_then); (apply sc_block); refine sr_ ?_; (refine se_ (ex_ent ev_ mem_ mem_ asm_ asm_) ?_); (refine se_ (ex_extract ev_ nth_) ?_); (refine asg_ ?_); refine sn_ ?_; (apply sc_region); (refine mv_ ?_); (refine mv_ ?_); (apply so_buildS; (focus ((apply EvP.cons; (exact ev_)); exact EvP.nil)); assumption; assumption; assumption; (focus (repeat (first | exact SeqP.nil | (apply SeqP.cons; exact rfl; exact rfl) | exact App.nil | apply App.cons))); exact rfl; exact rfl; exact rfl; intro _); (apply so_app0; (exact ev_); (exact ev_); (exact mem_); assumption; assumption; assumption; exact rfl; assumption; exact rfl; exact rfl; (first | assumption | omega | decide); (first | assumption | omega | decide); exact rfl; exact rfl; exact rfl; intro _ _ _ _); (refine asg_ ?_); (apply so_nil); (apply nm_block); (apply nm_then))
      rename_i b2 cap2 junk2 h2
      have hkm : k1 ∈ ml.map (·.1) := List.mem_map.2 ⟨_, hp, rfl⟩
      have hv : vis = [] := by rw [hz0] at hzs; exact List.reverse_eq_nil_iff.1 hzs.symm
      subst hv
      refine ⟨_, by rw [hk]; exact unseen_lt hkm hnv, seen', [k1], [k1], at_, rfl, hI', by simp, fun x hx => by rw [List.mem_singleton.1 hx]; exact hkm, rfl, .inr ⟨b2, cap2, junk2, by simp, at_, h2, held_⟩⟩
  · refine sc_perm hG ?_
    simp only [List.cons_append, List.nil_append]
    have hxl : (zs.map (Value.int .i64)).length = zs.length * 1 := by simp
    have hbz : zs.length ≤ 4096 := by
      have := nodup_len vis _ hnd hsub
      rw [hzs]
      simp at this ⊢
      omega
    have hz2 : zs.length < 4611686018427387904 := by omega
    ((apply sc_seq); (apply sc_region))
    apply so_nxt; (exact ev_); (intro _; (focus (repeat (first | exact Turn.here | apply Turn.there | apply Turn.pre)))); (exact mem_); assumption; assumption; (exact Nat.le_refl _); (exact ci_inj); exact rfl
    · intro hall
      ((refine se_ (ex_extract ev_ nth_) ?_); refine sn_ ?_; (apply sc_seq); (refine cf_ ?_); (apply sc_exit); (apply et_then); (apply et_then); (apply et_hit); (apply nm_then); refine sr_ ?_; (refine mv_ ?_))
      (apply so_call; (exact Ev.func); (focus ((apply EvL.cons; (exact ev_)); exact EvL.nil)); (focus (repeat (first | exact App.nil | apply App.cons))); assumption; (exact sort_tri Try.slices_Sort_int hz2 (b := b) (cap := cap) (junk := junk) (et := 3)); (exact sel_); exact rfl)
      rintro v L' ⟨rfl, rfl⟩
      simp only [List.cons_append, List.nil_append]
      (refine sn_ ?_; refine sr_ ?_; (refine mv_ ?_); (refine asg_ ?_); refine sn_ ?_; (apply sc_ret))
      have hne : ml ≠ [] := fun e => hz0 (by
        cases hv : vis with
        | nil => rw [hzs, hv]; rfl
        | cons x t => have := hsub x (by rw [hv]; exact List.mem_cons_self ..); rw [e] at this; cases this)
      have hl : (zs.mergeSort fun x y => decide (x ≤ y)).length = zs.length := by simp
      have hperm : (zs.mergeSort fun x y => decide (x ≤ y)).Perm (ml.map (·.1)) := by
        refine (List.mergeSort_perm zs _).trans ?_
        rw [hzs]
        refine (List.reverse_perm vis).trans ((List.perm_ext_iff_of_nodup hnd hM.keys).2 fun x => ⟨hsub x, fun hx => ?_⟩)
        obtain ⟨q, hq, rfl⟩ := List.mem_map.1 hx
        exact hall q hq
      have hpw : (zs.mergeSort fun x y => decide (x ≤ y)).Pairwise (· ≤ ·) := by
        have := List.pairwise_mergeSort (le := fun (x y : Int) => decide (x ≤ y)) (fun a b c h1 h2 => by simp at *; omega) (fun a b => by simp; omega) zs
        exact this.imp fun h => by simpa using h
      have hlj : ((zs.mergeSort fun x y => decide (x ≤ y)).map (Value.int .i64) ++ junk).length = cap := by
        simp at hjl ⊢
        omega
      (apply ret_ok; (focus ((apply Res.tmp; (exact ev_)); exact Res.nil)); (exact .inr ⟨b, cap, zs.mergeSort fun x y => decide (x ≤ y), junk, hne, by rw [hl]; rfl, rfl, hlj, hperm, hpw⟩); (exact sel_); (exact appb_))
    · rintro ⟨k1, v1⟩ seen' hp hnv hI' hcur
      simp only at hnv hI' hcur
      ((refine se_ (ex_extract ev_ nth_) ?_); refine sn_ ?_; (apply sc_seq); (refine ct_ ?_); (apply sc_skip); (apply nm_then); (apply sc_block); refine sr_ ?_; (refine se_ (ex_ent ev_ mem_ mem_ asm_ asm_) ?_); (refine se_ (ex_extract ev_ nth_) ?_); (refine asg_ ?_); refine sn_ ?_; (apply sc_region); (refine mv_ ?_); (refine mv_ ?_); (apply so_buildS; (focus ((apply EvP.cons; (exact ev_)); exact EvP.nil)); assumption; assumption; assumption; (focus (repeat (first | exact SeqP.nil | (apply SeqP.cons; exact rfl; exact rfl) | exact App.nil | apply App.cons))); exact rfl; exact rfl; exact rfl; intro _); (apply so_app1; (exact ev_); (exact ev_); (exact pick_); (exact mem_); assumption; assumption; assumption; assumption; assumption; exact rfl; assumption; exact rfl; exact rfl; (first | assumption | omega | decide); (first | assumption | omega | decide); exact rfl; exact rfl; exact rfl; intro _ _ _ _ _); (refine asg_ ?_); (apply so_nil); (apply nm_block); (apply nm_then))
      rename_i b2 cap2 junk2 h2 h3
      have hkm : k1 ∈ ml.map (·.1) := List.mem_map.2 ⟨_, hp, rfl⟩
      have e1 : (zs ++ [k1]).length = zs.length + 1 := by simp
      have e2 : (zs ++ [k1]).map (Value.int .i64) = zs.map (Value.int .i64) ++ [Value.int .i64 k1] := by simp
      refine ⟨_, by rw [hk]; exact unseen_lt hkm hnv, seen', k1 :: vis, zs ++ [k1], at_, by rw [hzs]; simp, hI', List.nodup_cons.2 ⟨hnv, hnd⟩, List.forall_mem_cons.2 ⟨hkm, hsub⟩, rfl, .inr ⟨b2, cap2, junk2, by simp, by rw [e1]; exact at_, by rw [e2]; exact h2, by rw [e2]; exact held_⟩⟩
theorem keysNil_tri : Tri Try.prog 31 #[.map none] [] fun v L => v = .slice none 0 0 ∧ L = [] := by
  have f_mixed := mixed; have f_by3 := by3; have f_en50 := en50; have f_ty25 := ty25; have f_ty3 := ty3; have f_ty69 := ty69; have f_un_25 : Und Try.prog 25 _ := ⟨Try.underlying25⟩; have f_un_64 : Und Try.prog 64 _ := ⟨Try.underlying64⟩; have f_zero3 := zero3; have f_zero69 := zero69; have f_zv3 := zv3; have f_zv69 := zv69
  refine tri_intro (args := [_]) Try.func31 rfl Try.ntmps31 rfl (rs := _) rfl rfl fun E R => ?_
  simp only [fr, List.nil_append]
  (refine sr_ ?_; (refine ac_ ?_); refine sn_ ?_; refine sr_ ?_; (refine ac_ ?_); refine sn_ ?_; (apply sc_seq); refine sr_ ?_; (refine mv_ ?_))
  (apply so_range_nil; (exact ev_); assumption; exact rfl; intro r)
  (refine sn_ ?_; (apply sc_block))
  refine sc_loop (fun _ f L => At f 6 (.pointer (some ⟨r, 0, none⟩)) ∧ At f 3 (.slice none 0 0) ∧ Held L [(r, .mapIter none 0 #[] 0)] R) 0 ⟨at_, at_, held_⟩ ?_
  rintro k f L ⟨a6, a3, ⟨G, hG⟩⟩
  refine sc_perm hG ?_
  simp only [List.cons_append, List.nil_append]
  ((apply sc_seq); (apply sc_region))
  (apply so_next_nil; (exact ev_); (exact mem_); exact rfl)
  ((refine se_ (ex_extract ev_ nth_) ?_); refine sn_ ?_; (apply sc_seq); (refine cf_ ?_); (apply sc_exit); (apply et_then); (apply et_then); (apply et_hit); (apply nm_then); refine sr_ ?_; (refine mv_ ?_); (apply so_callq; (exact Ev.func); (focus ((apply EvL.cons; (exact ev_)); exact EvL.nil)); (focus (repeat (first | exact App.nil | apply App.cons))); assumption; exact sortNone_tri; (exact sel_); exact rfl); refine sn_ ?_; refine sr_ ?_; (refine mv_ ?_); (refine asg_ ?_); refine sn_ ?_; (apply sc_ret))
  (apply ret_ok; (focus ((apply Res.tmp; (exact ev_)); exact Res.nil)); (exact ⟨rfl, rfl⟩); (exact sel_); (exact appb_))
end Go.Proofs.Ytomgkmoecbnddaa
